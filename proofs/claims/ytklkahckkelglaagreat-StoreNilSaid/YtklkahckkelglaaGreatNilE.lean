/- The texts of functions, as the logic reads them. -/
import Derived.Test.YtklkahckkelglaaGreatTab
namespace Go.Aev
open Go
set_option maxRecDepth 100000
set_option linter.unusedVariables false
/-- haycroft/haycroftlaw24.StoreNil -/
theorem e_3 (c_0 x_1 : Value) (H : AHeap) (Q : Value → AHeap → Prop) : fnP T 3 #[c_0, x_1] H Q = (
  st T H (v_box 23 c_0 H) fun c_1 H2 =>
  st T H2 (v_box 29 x_1 H2) fun x_3 H4 =>
  Fn T 7 #[] H4 fun t5 H6 =>
  st T H6 (v_un .not t5 H6) fun t7 H8 =>
  br t7
    (Q (.bool false) H8)
    (st T H8 (v_loadN 8 x_3 H8) fun t9 H10 =>
    Fn T 8 #[(.pointer none), t9] H10 fun t11 H12 =>
    st T H12 (v_extract t11 0 H12) fun t13 H14 =>
    st T H14 (v_extract t11 1 H14) fun t15 H16 =>
    st T H16 (v_off 1 x_3 H16) fun t17 H18 =>
    st T H18 (v_load t17 H18) fun t19 H20 =>
    st T H20 (v_off 2 x_3 H20) fun t21 H22 =>
    st T H22 (v_load t21 H22) fun t23 H24 =>
    Fn T 9 #[(.pointer none), t19, t23] H24 fun t25 H26 =>
    st T H26 (v_extract t25 0 H26) fun t27 H28 =>
    st T H28 (v_extract t25 1 H28) fun t29 H30 =>
    st T H30 (v_new 36 #[(.int .i64 0), (.string (strB []))] H30) fun out_31 H32 =>
    st T H32 (v_store 2 out_31 t27 H32) fun u33 H34 =>
    st T H34 (v_loadN 6 c_1 H34) fun t35 H36 =>
    Fn T 10 #[t35, (.pointer none)] H36 fun t37 H38 =>
    st T H38 (v_extract t37 0 H38) fun t39 H40 =>
    st T H40 (v_extract t37 1 H40) fun t41 H42 =>
    Fn T 11 #[] H42 fun t43 H44 =>
    Fn T 12 #[t43, (.slice none 0 0)] H44 fun t45 H46 =>
    st T H46 (v_loadN 6 c_1 H46) fun t47 H48 =>
    Fn T 10 #[t47, t43] H48 fun t49 H50 =>
    st T H50 (v_extract t49 0 H50) fun t51 H52 =>
    st T H52 (v_extract t49 1 H52) fun t53 H54 =>
    jn (fun (want_56 : Value) (H57 : AHeap) =>
      st T H57 (v_bin .eql t13 (.int .i64 0) H57) fun t58 H59 =>
      gd t58 true H59 (fun k =>  k (some t15) H59) fun t60 H61 =>
      gd t58 true H61 (fun k => st T H61 (v_bin .eql (gv t60) (.int .i64 2) H61) fun w217 H63 => k (some w217) H63) fun t62 H63 =>
      st T H63 (v_pick t58 (gv t62) (.bool false) H63) fun t64 H65 =>
      gd t64 true H65 (fun k => st T H65 (v_loadN 2 out_31 H65) fun w216 H67 => k (some w216) H67) fun t66 H67 =>
      gd t64 true H67 (fun k => st T H67 (v_build #[(.int .i64 0), (.string (strB []))] #[(0, 1), (1, 1)] [] H67) fun w215 H69 => k (some w215) H69) fun t68 H69 =>
      gd t64 true H69 (fun k => st T H69 (v_eq false (.flat [(0, 1), (1, 2)]) (gv t66) (gv t68) H69) fun w214 H71 => k (some w214) H71) fun t70 H71 =>
      st T H71 (v_pick t64 (gv t70) (.bool false) H71) fun t72 H73 =>
      gd t72 true H73 (fun k =>  k (some t29) H73) fun t74 H75 =>
      gd t72 true H75 (fun k => st T H75 (v_un .not (gv t74) H75) fun w212 H77 => k (some w212) H77) fun t76 H77 =>
      st T H77 (v_pick t72 (gv t76) (.bool false) H77) fun t78 H79 =>
      gd t78 true H79 (fun k =>  k (some t39) H79) fun t80 H81 =>
      gd t78 true H81 (fun k => st T H81 (v_eq false .pointer (gv t80) (.pointer none) H81) fun w210 H83 => k (some w210) H83) fun t82 H83 =>
      st T H83 (v_pick t78 (gv t82) (.bool false) H83) fun t84 H85 =>
      gd t84 true H85 (fun k =>  k (some t41) H85) fun t86 H87 =>
      gd t84 true H87 (fun k => st T H87 (v_bin .eql (gv t86) (.int .i64 2) H87) fun w208 H89 => k (some w208) H89) fun t88 H89 =>
      st T H89 (v_pick t84 (gv t88) (.bool false) H89) fun t90 H91 =>
      gd t90 true H91 (fun k =>  k (some t51) H91) fun t92 H93 =>
      gd t90 true H93 (fun k => st T H93 (v_eq false .pointer (gv t92) (.pointer none) H93) fun w206 H95 => k (some w206) H95) fun t94 H95 =>
      st T H95 (v_pick t90 (gv t94) (.bool false) H95) fun t96 H97 =>
      gd t96 true H97 (fun k =>  k (some t53) H97) fun t98 H99 =>
      gd t96 true H99 (fun k =>  k (some want_56) H99) fun t100 H101 =>
      gd t96 true H101 (fun k => st T H101 (v_bin .eql (gv t98) (gv t100) H101) fun w203 H103 => k (some w203) H103) fun t102 H103 =>
      st T H103 (v_pick t96 (gv t102) (.bool false) H103) fun t104 H105 =>
      gd t104 true H105 (fun k =>  k (some (.pointer none)) H105) fun t106 H107 =>
      gd t104 true H107 (fun k => Fn T 14 #[(gv t106)] H107 fun w201 H109 => k (some w201) H109) fun t108 H109 =>
      gd t104 true H109 (fun k => st T H109 (v_un .not (gv t108) H109) fun w200 H111 => k (some w200) H111) fun t110 H111 =>
      st T H111 (v_pick t104 (gv t110) (.bool false) H111) fun t112 H113 =>
      gd t112 true H113 (fun k =>  k (some (.pointer none)) H113) fun t114 H115 =>
      gd t112 true H115 (fun k => Fn T 15 #[(gv t114)] H115 fun w198 H117 => k (some w198) H117) fun t116 H117 =>
      gd t112 true H117 (fun k => st T H117 (v_bin .eql (gv t116) (.int .i64 0) H117) fun w197 H119 => k (some w197) H119) fun t118 H119 =>
      st T H119 (v_pick t112 (gv t118) (.bool false) H119) fun t120 H121 =>
      gd t120 true H121 (fun k =>  k (some (.pointer none)) H121) fun t122 H123 =>
      gd t120 true H123 (fun k => Fn T 16 #[(gv t122)] H123 fun w195 H125 => k (some w195) H125) fun t124 H125 =>
      gd t120 true H125 (fun k => st T H125 (v_un .not (gv t124) H125) fun w194 H127 => k (some w194) H127) fun t126 H127 =>
      st T H127 (v_pick t120 (gv t126) (.bool false) H127) fun t128 H129 =>
      gd t128 true H129 (fun k =>  k (some (.pointer none)) H129) fun t130 H131 =>
      gd t128 true H131 (fun k => Fn T 17 #[(gv t130)] H131 fun w192 H133 => k (some w192) H133) fun t132 H133 =>
      gd t128 true H133 (fun k => st T H133 (v_build #[(.int .i64 0), (.int .i64 0), (.int .i64 0), (.int .i64 0), (.int .i64 0), (.int .i64 0)] #[(0, 1), (1, 1), (2, 1), (3, 1), (4, 1), (5, 1)] [] H133) fun w191 H135 => k (some w191) H135) fun t134 H135 =>
      gd t128 true H135 (fun k => st T H135 (v_eq false (.flat [(0, 1), (1, 1), (2, 1), (3, 1), (4, 1), (5, 1)]) (gv t132) (gv t134) H135) fun w190 H137 => k (some w190) H137) fun t136 H137 =>
      st T H137 (v_pick t128 (gv t136) (.bool false) H137) fun t138 H139 =>
      gd t138 true H139 (fun k =>  k (some (.pointer none)) H139) fun t140 H141 =>
      gd t138 true H141 (fun k => Fn T 18 #[(gv t140)] H141 fun w188 H143 => k (some w188) H143) fun t142 H143 =>
      gd t138 true H143 (fun k => st T H143 (v_eq false .pointer (gv t142) (.pointer none) H143) fun w187 H145 => k (some w187) H145) fun t144 H145 =>
      st T H145 (v_pick t138 (gv t144) (.bool false) H145) fun t146 H147 =>
      gd t146 true H147 (fun k =>  k (some (.pointer none)) H147) fun t148 H149 =>
      gd t146 true H149 (fun k => Fn T 19 #[(gv t148)] H149 fun w185 H151 => k (some w185) H151) fun t150 H151 =>
      gd t146 true H151 (fun k => st T H151 (v_eq false .pointer (gv t150) (.pointer none) H151) fun w184 H153 => k (some w184) H153) fun t152 H153 =>
      st T H153 (v_pick t146 (gv t152) (.bool false) H153) fun t154 H155 =>
      gd t154 true H155 (fun k =>  k (some (.pointer none)) H155) fun t156 H157 =>
      gd t154 true H157 (fun k => Fn T 20 #[(gv t156)] H157 fun w182 H159 => k (some w182) H159) fun t158 H159 =>
      gd t154 true H159 (fun k => st T H159 (v_eq false .pointer (gv t158) (.pointer none) H159) fun w181 H161 => k (some w181) H161) fun t160 H161 =>
      st T H161 (v_pick t154 (gv t160) (.bool false) H161) fun t162 H163 =>
      gd t162 true H163 (fun k =>  k (some (.pointer none)) H163) fun t164 H165 =>
      gd t162 true H165 (fun k => st T H165 (v_off 1 x_3 H165) fun w179 H167 => k (some w179) H167) fun t166 H167 =>
      gd t162 true H167 (fun k => st T H167 (v_load (gv t166) H167) fun w178 H169 => k (some w178) H169) fun t168 H169 =>
      gd t162 true H169 (fun k => Fn T 21 #[(gv t164), (gv t168)] H169 fun w177 H171 => k (some w177) H171) fun t170 H171 =>
      gd t162 true H171 (fun k => st T H171 (v_eq false .pointer (gv t170) (.pointer none) H171) fun w176 H173 => k (some w176) H173) fun t172 H173 =>
      st T H173 (v_pick t162 (gv t172) (.bool false) H173) fun t174 H175 =>
      Q t174 H175
      ) fun J55 =>
    st T H54 (v_loadN 6 c_1 H54) fun t219 H220 =>
    Fn T 13 #[t219] H220 fun t221 H222 =>
    st T H222 (v_un .not t221 H222) fun t223 H224 =>
    br t223
      (J55 (.int .i64 1) H224)
      (J55 (.int .i64 6) H224))
  ) := by kernel_rfl
/-- (*haycroft/store.Store).Do -/
theorem e_8 (s_0 x_1 : Value) (H : AHeap) (Q : Value → AHeap → Prop) : fnP T 8 #[s_0, x_1] H Q = (
  st T H (v_box 29 x_1 H) fun x_1 H2 =>
  st T H2 (v_loadN 8 x_1 H2) fun t3 H4 =>
  Fn T 44 #[s_0, t3] H4 fun t5 H6 =>
  st T H6 (v_bin .neq t5 (.int .i64 0) H6) fun t7 H8 =>
  br t7
    (Q (.tuple #[(.int .i64 0), t5]) H8)
    (st T H8 (v_off 0 x_1 H8) fun t9 H10 =>
    st T H10 (v_load t9 H10) fun t11 H12 =>
    st T H12 (v_bin .eql t11 (.int .i64 1) H12) fun t13 H14 =>
    br t13
      (st T H14 (v_loadN 8 x_1 H14) fun t15 H16 =>
      Fn T 45 #[s_0, t15] H16 fun t17 H18 =>
      st T H18 (v_extract t17 0 H18) fun t19 H20 =>
      st T H20 (v_extract t17 1 H20) fun t21 H22 =>
      Q (.tuple #[t19, t21]) H22)
      (st T H14 (v_bin .eql t11 (.int .i64 2) H14) fun t23 H24 =>
      br t23
        (st T H24 (v_nilCheck s_0 H24) fun t25 H26 =>
        st T H26 (v_off 7 t25 H26) fun t27 H28 =>
        st T H28 (v_load t27 H28) fun t29 H30 =>
        st T H30 (v_nilCheck t29 H30) fun t31 H32 =>
        st T H32 (v_off 2 t31 H32) fun t33 H34 =>
        st T H34 (v_load t33 H34) fun t35 H36 =>
        st T H36 (v_off 1 x_1 H36) fun t37 H38 =>
        st T H38 (v_load t37 H38) fun t39 H40 =>
        st T H40 (v_ixSl 1 t35 t39 H40) fun t41 H42 =>
        st T H42 (v_load t41 H42) fun t43 H44 =>
        Fn T 46 #[t43] H44 fun t45 H46 =>
        st T H46 (v_extract t45 0 H46) fun t47 H48 =>
        st T H48 (v_extract t45 1 H48) fun t49 H50 =>
        Q (.tuple #[t47, t49]) H50)
        (st T H24 (v_bin .eql t11 (.int .i64 3) H24) fun t51 H52 =>
        br t51
          (st T H52 (v_nilCheck s_0 H52) fun t53 H54 =>
          st T H54 (v_off 7 t53 H54) fun t55 H56 =>
          st T H56 (v_load t55 H56) fun t57 H58 =>
          st T H58 (v_nilCheck t57 H58) fun t59 H60 =>
          st T H60 (v_off 2 t59 H60) fun t61 H62 =>
          st T H62 (v_load t61 H62) fun t63 H64 =>
          st T H64 (v_off 1 x_1 H64) fun t65 H66 =>
          st T H66 (v_load t65 H66) fun t67 H68 =>
          st T H68 (v_ixSl 1 t63 t67 H68) fun t69 H70 =>
          st T H70 (v_load t69 H70) fun t71 H72 =>
          Fn T 47 #[t71] H72 fun t73 H74 =>
          st T H74 (v_extract t73 0 H74) fun t75 H76 =>
          st T H76 (v_extract t73 1 H76) fun t77 H78 =>
          Q (.tuple #[t75, t77]) H78)
          (st T H52 (v_bin .eql t11 (.int .i64 4) H52) fun t79 H80 =>
          br t79
            (st T H80 (v_off 2 x_1 H80) fun t81 H82 =>
            st T H82 (v_load t81 H82) fun t83 H84 =>
            Fn T 48 #[s_0, t83] H84 fun t85 H86 =>
            st T H86 (v_extract t85 0 H86) fun t87 H88 =>
            st T H88 (v_extract t85 1 H88) fun t89 H90 =>
            Q (.tuple #[t87, t89]) H90)
            (st T H80 (v_bin .eql t11 (.int .i64 5) H80) fun t91 H92 =>
            br t91
              (st T H92 (v_nilCheck s_0 H92) fun t93 H94 =>
              st T H94 (v_off 7 t93 H94) fun t95 H96 =>
              st T H96 (v_load t95 H96) fun t97 H98 =>
              st T H98 (v_nilCheck t97 H98) fun t99 H100 =>
              st T H100 (v_off 0 t99 H100) fun t101 H102 =>
              st T H102 (v_load t101 H102) fun t103 H104 =>
              st T H104 (v_off 2 x_1 H104) fun t105 H106 =>
              st T H106 (v_load t105 H106) fun t107 H108 =>
              Fn T 49 #[t103, t107] H108 fun t109 H110 =>
              Q (.tuple #[(.int .i64 0), t109]) H110)
              (st T H92 (v_bin .eql t11 (.int .i64 6) H92) fun t111 H112 =>
              br t111
                (st T H112 (v_nilCheck s_0 H112) fun t113 H114 =>
                st T H114 (v_off 7 t113 H114) fun t115 H116 =>
                st T H116 (v_load t115 H116) fun t117 H118 =>
                st T H118 (v_nilCheck t117 H118) fun t119 H120 =>
                st T H120 (v_off 0 t119 H120) fun t121 H122 =>
                st T H122 (v_load t121 H122) fun t123 H124 =>
                st T H124 (v_off 2 x_1 H124) fun t125 H126 =>
                st T H126 (v_load t125 H126) fun t127 H128 =>
                Fn T 50 #[t123, t127] H128 fun t129 H130 =>
                Q (.tuple #[(.int .i64 0), t129]) H130)
                (st T H112 (v_bin .eql t11 (.int .i64 7) H112) fun t131 H132 =>
                br t131
                  (st T H132 (v_nilCheck s_0 H132) fun t133 H134 =>
                  st T H134 (v_off 7 t133 H134) fun t135 H136 =>
                  st T H136 (v_load t135 H136) fun t137 H138 =>
                  st T H138 (v_nilCheck t137 H138) fun t139 H140 =>
                  st T H140 (v_off 0 t139 H140) fun t141 H142 =>
                  st T H142 (v_load t141 H142) fun t143 H144 =>
                  st T H144 (v_off 2 x_1 H144) fun t145 H146 =>
                  st T H146 (v_load t145 H146) fun t147 H148 =>
                  Fn T 51 #[t143, t147] H148 fun t149 H150 =>
                  st T H150 (v_extract t149 0 H150) fun t151 H152 =>
                  st T H152 (v_extract t149 1 H152) fun t153 H154 =>
                  Q (.tuple #[t151, t153]) H154)
                  (st T H132 (v_bin .eql t11 (.int .i64 8) H132) fun t155 H156 =>
                  br t155
                    (Fn T 52 #[s_0] H156 fun t157 H158 =>
                    st T H158 (v_extract t157 0 H158) fun t159 H160 =>
                    st T H160 (v_extract t157 1 H160) fun t161 H162 =>
                    Q (.tuple #[t159, t161]) H162)
                    (st T H156 (v_bin .eql t11 (.int .i64 9) H156) fun t163 H164 =>
                    br t163
                      (st T H164 (v_off 7 x_1 H164) fun t165 H166 =>
                      st T H166 (v_load t165 H166) fun t167 H168 =>
                      Fn T 53 #[s_0, t167] H168 fun t169 H170 =>
                      st T H170 (v_extract t169 0 H170) fun t171 H172 =>
                      st T H172 (v_extract t169 1 H172) fun t173 H174 =>
                      Q (.tuple #[t171, t173]) H174)
                      (Fn T 54 #[s_0] H164 fun t175 H176 =>
                      st T H176 (v_extract t175 0 H176) fun t177 H178 =>
                      st T H178 (v_extract t175 1 H178) fun t179 H180 =>
                      Q (.tuple #[t177, t179]) H180))))))))))
  ) := by kernel_rfl
/-- (*haycroft/store.Store).Outcome -/
theorem e_9 (s_0 n_1 serial_2 : Value) (H : AHeap) (Q : Value → AHeap → Prop) : fnP T 9 #[s_0, n_1, serial_2] H Q = (
  st T H (v_new 36 #[(.int .i64 0), (.string (strB []))] H) fun t1 H2 =>
  Fn T 21 #[s_0, n_1] H2 fun t3 H4 =>
  Fn T 55 #[t3, serial_2] H4 fun t5 H6 =>
  st T H6 (v_extract t5 0 H6) fun t7 H8 =>
  st T H8 (v_extract t5 1 H8) fun t9 H10 =>
  st T H10 (v_store 2 t1 t7 H10) fun u11 H12 =>
  opt (rdN H12 2 t1) fun r13 =>
  Q (.tuple #[(.agg r13), t9]) H12
  ) := by kernel_rfl
/-- haycroft/store.Open -/
theorem e_10 (c_0 d_1 : Value) (H : AHeap) (Q : Value → AHeap → Prop) : fnP T 10 #[c_0, d_1] H Q = (
  st T H (v_box 23 c_0 H) fun c_1 H2 =>
  st T H2 (v_eq false .pointer d_1 (.pointer none) H2) fun t3 H4 =>
  br t3
    (Q (.tuple #[(.pointer none), (.int .i64 2)]) H4)
    (st T H4 (v_loadN 6 c_1 H4) fun t5 H6 =>
    Fn T 56 #[t5] H6 fun t7 H8 =>
    st T H8 (v_un .not t7 H8) fun t9 H10 =>
    br t9
      (Q (.tuple #[(.pointer none), (.int .i64 1)]) H10)
      (Fn T 57 #[d_1] H10 fun t11 H12 =>
      st T H12 (v_un .not t11 H12) fun t13 H14 =>
      br t13
        (Q (.tuple #[(.pointer none), (.int .i64 6)]) H14)
        (st T H14 (v_loadN 6 c_1 H14) fun t15 H16 =>
        Fn T 58 #[t15, d_1] H16 fun t17 H18 =>
        st T H18 (v_extract t17 0 H18) fun t19 H20 =>
        st T H20 (v_extract t17 1 H20) fun t21 H22 =>
        st T H22 (v_bin .neq t21 (.int .i64 0) H22) fun t23 H24 =>
        br t23
          (Q (.tuple #[(.pointer none), t21]) H24)
          (st T H24 (v_loadN 6 c_1 H24) fun t25 H26 =>
          st T H26 (v_build #[(.int .i64 0), (.int .i64 0), (.int .i64 0), (.int .i64 0), (.int .i64 0), (.int .i64 0), (.pointer none), (.pointer none)] #[(0, 6), (6, 1), (7, 1)] [(0, t25), (1, d_1), (2, t19)] H26) fun t27 H28 =>
          st T H28 (v_box 93 t27 H28) fun t29 H30 =>
          Q (.tuple #[t29, (.int .i64 0)]) H30))))
  ) := by kernel_rfl
/-- haycroft/device.New -/
theorem e_11 (H : AHeap) (Q : Value → AHeap → Prop) : fnP T 11 #[] H Q = (
  st T H (v_makeMap H) fun t1 H2 =>
  st T H2 (v_makeMap H2) fun t3 H4 =>
  st T H4 (v_makeMap H4) fun t5 H6 =>
  st T H6 (v_build #[(.bool false), (.map none), (.map none), (.map none), (.int .i64 0)] #[(0, 1), (1, 1), (2, 1), (3, 1), (4, 1)] [(1, t1), (2, t3), (3, t5)] H6) fun t7 H8 =>
  st T H8 (v_box 109 t7 H8) fun t9 H10 =>
  Q t9 H10
  ) := by kernel_rfl
/-- (*haycroft/device.Device).Crash -/
theorem e_12 (d_0 picks_1 : Value) (H : AHeap) (Q : Value → AHeap → Prop) : fnP T 12 #[d_0, picks_1] H Q = (
  Fn T 59 #[d_0] H fun t1 H2 =>
  st T H2 (v_bin .neq t1 (.int .i64 0) H2) fun t3 H4 =>
  br t3
    (Q t1 H4)
    (jn (fun (d_6 : Value) (H7 : AHeap) =>
      st T H7 (v_nilCheck d_6 H7) fun t8 H9 =>
      st T H9 (v_off 2 t8 H9) fun t10 H11 =>
      st T H11 (v_load t10 H11) fun t12 H13 =>
      st T H13 (v_clearMap t12 H13) fun u14 H15 =>
      st T H15 (v_nilCheck d_6 H15) fun t16 H17 =>
      st T H17 (v_off 3 t16 H17) fun t18 H19 =>
      st T H19 (v_load t18 H19) fun t20 H21 =>
      st T H21 (v_clearMap t20 H21) fun u22 H23 =>
      st T H23 (v_nilCheck d_6 H23) fun t24 H25 =>
      st T H25 (v_off 0 t24 H25) fun t26 H27 =>
      st T H27 (v_store 1 t26 (.bool true) H27) fun u28 H29 =>
      Q (.int .i64 0) H29
      ) fun J5 =>
    Fn T 60 #[d_0] H4 fun t30 H31 =>
    st T H31 (v_lenSl t30 H31) fun t32 H33 =>
    lpP T 12 0 [0, 4] (envOf [(0, d_0), (1, picks_1), (16, t30), (17, t32), (18, (.int .i64 0))]) H33 fun x34 g35 H36 =>
    blkP x34 0
      (J5 (g35 0) H36)
      (seqP x34
        (J5 (g35 0) H36)
        (retP x34
          (Q (g35 4) H36))))
  ) := by kernel_rfl
theorem l_12_0 (d_1 picks_2 t3 t4 t5 : Value) (H : AHeap) (Q : AExit → FE → AHeap → Prop) : lpB T 12 0 [0, 4] (envOf [(0, d_1), (1, picks_2), (16, t3), (17, t4), (18, t5)]) H Q = (
  st T H (v_bin .lss t5 t4 H) fun t7 H8 =>
  br t7
    (jn (fun (picks_10 : Value) (H11 : AHeap) =>
      st T H11 (v_bin .add t5 (.int .i64 1) H11) fun t12 H13 =>
      lpP T 12 0 [0, 4] (envOf [(0, d_1), (1, picks_10), (16, t3), (17, t4), (18, t12)]) H13 Q
      ) fun J9 =>
    st T H8 (v_ixSl 1 t3 t5 H8) fun t14 H15 =>
    st T H15 (v_load t14 H15) fun t16 H17 =>
    st T H17 (v_nilCheck d_1 H17) fun t18 H19 =>
    st T H19 (v_off 2 t18 H19) fun t20 H21 =>
    st T H21 (v_load t20 H21) fun t22 H23 =>
    st T H23 (v_lookup (.one 1) (.agg #[(.int .i64 0), (.int .i64 0), (.bool false), (.string (strB []))]) false t22 t16 H23) fun t24 H25 =>
    st T H25 (v_new 115 #[(.int .i64 0), (.int .i64 0), (.bool false), (.string (strB []))] H25) fun j_26 H27 =>
    st T H27 (v_store 4 j_26 t24 H27) fun u28 H29 =>
    st T H29 (v_off 2 j_26 H29) fun t30 H31 =>
    st T H31 (v_load t30 H31) fun t32 H33 =>
    st T H33 (v_un .not t32 H33) fun t34 H35 =>
    br t34
      (J9 picks_2 H35)
      (jn (fun (picks_37 pick_38 : Value) (H39 : AHeap) =>
        st T H39 (v_bin .eql pick_38 (.int .i64 1) H39) fun t40 H41 =>
        br t40
          (st T H41 (v_nilCheck d_1 H41) fun t42 H43 =>
          st T H43 (v_off 1 t42 H43) fun t44 H45 =>
          st T H45 (v_load t44 H45) fun t46 H47 =>
          st T H47 (v_off 0 j_26 H47) fun t48 H49 =>
          st T H49 (v_loadN 2 t48 H49) fun t50 H51 =>
          st T H51 (v_off 3 j_26 H51) fun t52 H53 =>
          st T H53 (v_load t52 H53) fun t54 H55 =>
          st T H55 (v_update (.flat [(0, 1), (1, 1)]) t46 t50 t54 H55) fun u56 H57 =>
          J9 picks_37 H57)
          (st T H41 (v_bin .gtr pick_38 (.int .i64 1) H41) fun t58 H59 =>
          br t58
            (st T H59 (v_nilCheck d_1 H59) fun t60 H61 =>
            st T H61 (v_off 1 t60 H61) fun t62 H63 =>
            st T H63 (v_load t62 H63) fun t64 H65 =>
            st T H65 (v_off 0 j_26 H65) fun t66 H67 =>
            st T H67 (v_loadN 2 t66 H67) fun t68 H69 =>
            st T H69 (v_nilCheck d_1 H69) fun t70 H71 =>
            st T H71 (v_off 1 t70 H71) fun t72 H73 =>
            st T H73 (v_load t72 H73) fun t74 H75 =>
            st T H75 (v_off 0 j_26 H75) fun t76 H77 =>
            st T H77 (v_loadN 2 t76 H77) fun t78 H79 =>
            st T H79 (v_lookup (.flat [(0, 1), (1, 1)]) (.string (strB [])) false t74 t78 H79) fun t80 H81 =>
            st T H81 (v_off 3 j_26 H81) fun t82 H83 =>
            st T H83 (v_load t82 H83) fun t84 H85 =>
            Fn T 61 #[t80, t84, pick_38] H85 fun t86 H87 =>
            st T H87 (v_update (.flat [(0, 1), (1, 1)]) t64 t68 t86 H87) fun u88 H89 =>
            ylk (ptrOf t62) H87.next (v_load t62 H87) t64 ∧
            ylk (ptrOf t66) H87.next (v_loadN 2 t66 H87) t68 ∧
            J9 picks_37 H89)
            (J9 picks_37 H59))
        ) fun J36 =>
      st T H35 (v_lenSl picks_2 H35) fun t90 H91 =>
      st T H91 (v_bin .gtr t90 (.int .i64 0) H91) fun t92 H93 =>
      br t92
        (st T H93 (v_ixSl 1 picks_2 (.int .i64 0) H93) fun t94 H95 =>
        st T H95 (v_load t94 H95) fun t96 H97 =>
        st T H97 (v_sliceSl 1 picks_2 (some (.int .i64 1)) none none H97) fun t98 H99 =>
        J36 t98 t96 H99)
        (J36 picks_2 (.int .i64 0) H93)))
    (Q (.exit 0) (envOf [(0, d_1), (4, undef)]) H8)
  ) := by kernel_rfl
/-- haycroft/haycroftref24.Right -/
theorem e_13 (c_0 : Value) (H : AHeap) (Q : Value → AHeap → Prop) : fnP T 13 #[c_0] H Q = (
  st T H (v_box 23 c_0 H) fun c_1 H2 =>
  st T H2 (v_off 0 c_1 H2) fun t3 H4 =>
  st T H4 (v_load t3 H4) fun t5 H6 =>
  Fn T 62 #[t5] H6 fun t7 H8 =>
  st T H8 (v_bin .gtr t7 (.int .i64 0) H8) fun t9 H10 =>
  gd t9 true H10 (fun k => st T H10 (v_off 1 c_1 H10) fun w109 H12 => k (some w109) H12) fun t11 H12 =>
  gd t9 true H12 (fun k => st T H12 (v_load (gv t11) H12) fun w108 H14 => k (some w108) H14) fun t13 H14 =>
  gd t9 true H14 (fun k => st T H14 (v_bin .geq (gv t13) (.int .i64 2) H14) fun w107 H16 => k (some w107) H16) fun t15 H16 =>
  st T H16 (v_pick t9 (gv t15) (.bool false) H16) fun t17 H18 =>
  gd t17 true H18 (fun k => st T H18 (v_off 1 c_1 H18) fun w106 H20 => k (some w106) H20) fun t19 H20 =>
  gd t17 true H20 (fun k => st T H20 (v_load (gv t19) H20) fun w105 H22 => k (some w105) H22) fun t21 H22 =>
  gd t17 true H22 (fun k => st T H22 (v_bin .leq (gv t21) (.int .i64 8) H22) fun w104 H24 => k (some w104) H24) fun t23 H24 =>
  st T H24 (v_pick t17 (gv t23) (.bool false) H24) fun t25 H26 =>
  gd t25 true H26 (fun k => st T H26 (v_off 2 c_1 H26) fun w103 H28 => k (some w103) H28) fun t27 H28 =>
  gd t25 true H28 (fun k => st T H28 (v_load (gv t27) H28) fun w102 H30 => k (some w102) H30) fun t29 H30 =>
  gd t25 true H30 (fun k => st T H30 (v_bin .geq (gv t29) (.int .i64 1) H30) fun w101 H32 => k (some w101) H32) fun t31 H32 =>
  st T H32 (v_pick t25 (gv t31) (.bool false) H32) fun t33 H34 =>
  gd t33 true H34 (fun k => st T H34 (v_off 2 c_1 H34) fun w100 H36 => k (some w100) H36) fun t35 H36 =>
  gd t33 true H36 (fun k => st T H36 (v_load (gv t35) H36) fun w99 H38 => k (some w99) H38) fun t37 H38 =>
  gd t33 true H38 (fun k => st T H38 (v_bin .leq (gv t37) (.int .i64 64) H38) fun w98 H40 => k (some w98) H40) fun t39 H40 =>
  st T H40 (v_pick t33 (gv t39) (.bool false) H40) fun t41 H42 =>
  gd t41 true H42 (fun k => st T H42 (v_off 3 c_1 H42) fun w97 H44 => k (some w97) H44) fun t43 H44 =>
  gd t41 true H44 (fun k => st T H44 (v_load (gv t43) H44) fun w96 H46 => k (some w96) H46) fun t45 H46 =>
  gd t41 true H46 (fun k => Fn T 63 #[(gv t45)] H46 fun w95 H48 => k (some w95) H48) fun t47 H48 =>
  st T H48 (v_pick t41 (gv t47) (.bool false) H48) fun t49 H50 =>
  gd t49 true H50 (fun k => st T H50 (v_off 4 c_1 H50) fun w94 H52 => k (some w94) H52) fun t51 H52 =>
  gd t49 true H52 (fun k => st T H52 (v_load (gv t51) H52) fun w93 H54 => k (some w93) H54) fun t53 H54 =>
  gd t49 true H54 (fun k => st T H54 (v_bin .geq (gv t53) (.int .i64 0) H54) fun w92 H56 => k (some w92) H56) fun t55 H56 =>
  st T H56 (v_pick t49 (gv t55) (.bool false) H56) fun t57 H58 =>
  gd t57 true H58 (fun k => st T H58 (v_off 4 c_1 H58) fun w91 H60 => k (some w91) H60) fun t59 H60 =>
  gd t57 true H60 (fun k => st T H60 (v_load (gv t59) H60) fun w90 H62 => k (some w90) H62) fun t61 H62 =>
  gd t57 true H62 (fun k => st T H62 (v_bin .leq (gv t61) (.int .i64 64) H62) fun w89 H64 => k (some w89) H64) fun t63 H64 =>
  st T H64 (v_pick t57 (gv t63) (.bool false) H64) fun t65 H66 =>
  gd t65 true H66 (fun k => st T H66 (v_off 5 c_1 H66) fun w88 H68 => k (some w88) H68) fun t67 H68 =>
  gd t65 true H68 (fun k => st T H68 (v_load (gv t67) H68) fun w87 H70 => k (some w87) H70) fun t69 H70 =>
  gd t65 true H70 (fun k => st T H70 (v_bin .geq (gv t69) (.int .i64 1) H70) fun w86 H72 => k (some w86) H72) fun t71 H72 =>
  st T H72 (v_pick t65 (gv t71) (.bool false) H72) fun t73 H74 =>
  gd t73 true H74 (fun k => st T H74 (v_off 5 c_1 H74) fun w85 H76 => k (some w85) H76) fun t75 H76 =>
  gd t73 true H76 (fun k => st T H76 (v_load (gv t75) H76) fun w84 H78 => k (some w84) H78) fun t77 H78 =>
  gd t73 true H78 (fun k => st T H78 (v_bin .leq (gv t77) (.int .i64 8) H78) fun w83 H80 => k (some w83) H80) fun t79 H80 =>
  st T H80 (v_pick t73 (gv t79) (.bool false) H80) fun t81 H82 =>
  Q t81 H82
  ) := by kernel_rfl
/-- (*haycroft/store.Store).Up -/
theorem e_14 (s_0 : Value) (H : AHeap) (Q : Value → AHeap → Prop) : fnP T 14 #[s_0] H Q = (
  st T H (v_eq true .pointer s_0 (.pointer none) H) fun t1 H2 =>
  gd t1 true H2 (fun k =>  k (some s_0) H2) fun t3 H4 =>
  gd t1 true H4 (fun k => st T H4 (v_nilCheck (gv t3) H4) fun w18 H6 => k (some w18) H6) fun t5 H6 =>
  gd t1 true H6 (fun k => st T H6 (v_off 7 (gv t5) H6) fun w17 H8 => k (some w17) H8) fun t7 H8 =>
  gd t1 true H8 (fun k => st T H8 (v_load (gv t7) H8) fun w16 H10 => k (some w16) H10) fun t9 H10 =>
  gd t1 true H10 (fun k => st T H10 (v_eq true .pointer (gv t9) (.pointer none) H10) fun w15 H12 => k (some w15) H12) fun t11 H12 =>
  st T H12 (v_pick t1 (gv t11) (.bool false) H12) fun t13 H14 =>
  Q t13 H14
  ) := by kernel_rfl
/-- (*haycroft/store.Store).Gen -/
theorem e_15 (s_0 : Value) (H : AHeap) (Q : Value → AHeap → Prop) : fnP T 15 #[s_0] H Q = (
  Fn T 14 #[s_0] H fun t1 H2 =>
  st T H2 (v_un .not t1 H2) fun t3 H4 =>
  br t3
    (Q (.int .i64 0) H4)
    (st T H4 (v_nilCheck s_0 H4) fun t5 H6 =>
    st T H6 (v_off 7 t5 H6) fun t7 H8 =>
    st T H8 (v_load t7 H8) fun t9 H10 =>
    st T H10 (v_nilCheck t9 H10) fun t11 H12 =>
    st T H12 (v_off 3 t11 H12) fun t13 H14 =>
    st T H14 (v_load t13 H14) fun t15 H16 =>
    Q t15 H16)
  ) := by kernel_rfl
/-- (*haycroft/store.Store).Saving -/
theorem e_16 (s_0 : Value) (H : AHeap) (Q : Value → AHeap → Prop) : fnP T 16 #[s_0] H Q = (
  Fn T 14 #[s_0] H fun t1 H2 =>
  gd t1 true H2 (fun k =>  k (some s_0) H2) fun t3 H4 =>
  gd t1 true H4 (fun k => st T H4 (v_nilCheck (gv t3) H4) fun w27 H6 => k (some w27) H6) fun t5 H6 =>
  gd t1 true H6 (fun k => st T H6 (v_off 7 (gv t5) H6) fun w26 H8 => k (some w26) H8) fun t7 H8 =>
  gd t1 true H8 (fun k => st T H8 (v_load (gv t7) H8) fun w25 H10 => k (some w25) H10) fun t9 H10 =>
  gd t1 true H10 (fun k => st T H10 (v_nilCheck (gv t9) H10) fun w24 H12 => k (some w24) H12) fun t11 H12 =>
  gd t1 true H12 (fun k => st T H12 (v_off 4 (gv t11) H12) fun w23 H14 => k (some w23) H14) fun t13 H14 =>
  gd t1 true H14 (fun k => st T H14 (v_load (gv t13) H14) fun w22 H16 => k (some w22) H16) fun t15 H16 =>
  gd t1 true H16 (fun k => st T H16 (v_eq true .pointer (gv t15) (.pointer none) H16) fun w21 H18 => k (some w21) H18) fun t17 H18 =>
  st T H18 (v_pick t1 (gv t17) (.bool false) H18) fun t19 H20 =>
  Q t19 H20
  ) := by kernel_rfl
/-- (*haycroft/store.Store).Config -/
theorem e_17 (s_0 : Value) (H : AHeap) (Q : Value → AHeap → Prop) : fnP T 17 #[s_0] H Q = (
  st T H (v_new 23 #[(.int .i64 0), (.int .i64 0), (.int .i64 0), (.int .i64 0), (.int .i64 0), (.int .i64 0)] H) fun t1 H2 =>
  st T H2 (v_eq false .pointer s_0 (.pointer none) H2) fun t3 H4 =>
  br t3
    (st T H4 (v_build #[(.int .i64 0), (.int .i64 0), (.int .i64 0), (.int .i64 0), (.int .i64 0), (.int .i64 0)] #[(0, 1), (1, 1), (2, 1), (3, 1), (4, 1), (5, 1)] [] H4) fun t5 H6 =>
    st T H6 (v_store 6 t1 t5 H6) fun u7 H8 =>
    opt (rdN H8 6 t1) fun r9 =>
    Q (.agg r9) H8)
    (st T H4 (v_nilCheck s_0 H4) fun t10 H11 =>
    st T H11 (v_off 0 t10 H11) fun t12 H13 =>
    st T H13 (v_loadN 6 t12 H13) fun t14 H15 =>
    st T H15 (v_store 6 t1 t14 H15) fun u16 H17 =>
    opt (rdN H17 6 t1) fun r18 =>
    Q (.agg r18) H17)
  ) := by kernel_rfl
/-- (*haycroft/store.Store).Log -/
theorem e_18 (s_0 : Value) (H : AHeap) (Q : Value → AHeap → Prop) : fnP T 18 #[s_0] H Q = (
  Fn T 14 #[s_0] H fun t1 H2 =>
  st T H2 (v_un .not t1 H2) fun t3 H4 =>
  br t3
    (Q (.pointer none) H4)
    (st T H4 (v_nilCheck s_0 H4) fun t5 H6 =>
    st T H6 (v_off 7 t5 H6) fun t7 H8 =>
    st T H8 (v_load t7 H8) fun t9 H10 =>
    st T H10 (v_nilCheck t9 H10) fun t11 H12 =>
    st T H12 (v_off 0 t11 H12) fun t13 H14 =>
    st T H14 (v_load t13 H14) fun t15 H16 =>
    Q t15 H16)
  ) := by kernel_rfl
/-- (*haycroft/store.Store).Index -/
theorem e_19 (s_0 : Value) (H : AHeap) (Q : Value → AHeap → Prop) : fnP T 19 #[s_0] H Q = (
  Fn T 14 #[s_0] H fun t1 H2 =>
  st T H2 (v_un .not t1 H2) fun t3 H4 =>
  br t3
    (Q (.pointer none) H4)
    (st T H4 (v_nilCheck s_0 H4) fun t5 H6 =>
    st T H6 (v_off 7 t5 H6) fun t7 H8 =>
    st T H8 (v_load t7 H8) fun t9 H10 =>
    st T H10 (v_nilCheck t9 H10) fun t11 H12 =>
    st T H12 (v_off 1 t11 H12) fun t13 H14 =>
    st T H14 (v_load t13 H14) fun t15 H16 =>
    Q t15 H16)
  ) := by kernel_rfl
/-- (*haycroft/store.Store).Device -/
theorem e_20 (s_0 : Value) (H : AHeap) (Q : Value → AHeap → Prop) : fnP T 20 #[s_0] H Q = (
  st T H (v_eq false .pointer s_0 (.pointer none) H) fun t1 H2 =>
  br t1
    (Q (.pointer none) H2)
    (st T H2 (v_nilCheck s_0 H2) fun t3 H4 =>
    st T H4 (v_off 6 t3 H4) fun t5 H6 =>
    st T H6 (v_load t5 H6) fun t7 H8 =>
    Q t7 H8)
  ) := by kernel_rfl
/-- (*haycroft/store.Store).Session -/
theorem e_21 (s_0 n_1 : Value) (H : AHeap) (Q : Value → AHeap → Prop) : fnP T 21 #[s_0, n_1] H Q = (
  Fn T 14 #[s_0] H fun t1 H2 =>
  st T H2 (v_un .not t1 H2) fun t3 H4 =>
  gd t3 false H4 (fun k =>  k (some n_1) H4) fun t5 H6 =>
  gd t3 false H6 (fun k =>  k (some s_0) H6) fun t7 H8 =>
  gd t3 false H8 (fun k => st T H8 (v_nilCheck (gv t7) H8) fun w47 H10 => k (some w47) H10) fun t9 H10 =>
  gd t3 false H10 (fun k => st T H10 (v_off 0 (gv t9) H10) fun w46 H12 => k (some w46) H12) fun t11 H12 =>
  gd t3 false H12 (fun k => st T H12 (v_off 5 (gv t11) H12) fun w45 H14 => k (some w45) H14) fun t13 H14 =>
  gd t3 false H14 (fun k => st T H14 (v_load (gv t13) H14) fun w44 H16 => k (some w44) H16) fun t15 H16 =>
  gd t3 false H16 (fun k => st T H16 (v_bin .sub (gv t15) (.int .i64 1) H16) fun w43 H18 => k (some w43) H18) fun t17 H18 =>
  gd t3 false H18 (fun k => Fn T 64 #[(gv t5), (.int .i64 0), (gv t17)] H18 fun w42 H20 => k (some w42) H20) fun t19 H20 =>
  gd t3 false H20 (fun k => st T H20 (v_un .not (gv t19) H20) fun w41 H22 => k (some w41) H22) fun t21 H22 =>
  st T H22 (v_pick t3 (.bool true) (gv t21) H22) fun t23 H24 =>
  br t23
    (Q (.pointer none) H24)
    (st T H24 (v_nilCheck s_0 H24) fun t25 H26 =>
    st T H26 (v_off 7 t25 H26) fun t27 H28 =>
    st T H28 (v_load t27 H28) fun t29 H30 =>
    st T H30 (v_nilCheck t29 H30) fun t31 H32 =>
    st T H32 (v_off 2 t31 H32) fun t33 H34 =>
    st T H34 (v_load t33 H34) fun t35 H36 =>
    st T H36 (v_ixSl 1 t35 n_1 H36) fun t37 H38 =>
    st T H38 (v_load t37 H38) fun t39 H40 =>
    Q t39 H40)
  ) := by kernel_rfl
/-- (*haycroft/store.Store).may -/
theorem e_44 (s_0 x_1 : Value) (H : AHeap) (Q : Value → AHeap → Prop) : fnP T 44 #[s_0, x_1] H Q = (
  st T H (v_box 29 x_1 H) fun x_1 H2 =>
  st T H2 (v_off 0 x_1 H2) fun t3 H4 =>
  st T H4 (v_load t3 H4) fun t5 H6 =>
  Fn T 64 #[t5, (.int .i64 1), (.int .i64 3)] H6 fun t7 H8 =>
  st T H8 (v_eq false .pointer s_0 (.pointer none) H8) fun t9 H10 =>
  br t9
    (Q (.int .i64 2) H10)
    (st T H10 (v_off 0 x_1 H10) fun t11 H12 =>
    st T H12 (v_load t11 H12) fun t13 H14 =>
    Fn T 64 #[t13, (.int .i64 1), (.int .i64 10)] H14 fun t15 H16 =>
    st T H16 (v_un .not t15 H16) fun t17 H18 =>
    br t17
      (Q (.int .i64 1) H18)
      (st T H18 (v_off 0 x_1 H18) fun t19 H20 =>
      st T H20 (v_load t19 H20) fun t21 H22 =>
      st T H22 (v_bin .eql t21 (.int .i64 10) H22) fun t23 H24 =>
      gd t23 true H24 (fun k =>  k (some s_0) H24) fun t25 H26 =>
      gd t23 true H26 (fun k => Fn T 14 #[(gv t25)] H26 fun w80 H28 => k (some w80) H28) fun t27 H28 =>
      st T H28 (v_pick t23 (gv t27) (.bool false) H28) fun t29 H30 =>
      br t29
        (Q (.int .i64 8) H30)
        (st T H30 (v_off 0 x_1 H30) fun t31 H32 =>
        st T H32 (v_load t31 H32) fun t33 H34 =>
        st T H34 (v_bin .neq t33 (.int .i64 10) H34) fun t35 H36 =>
        gd t35 true H36 (fun k =>  k (some s_0) H36) fun t37 H38 =>
        gd t35 true H38 (fun k => Fn T 14 #[(gv t37)] H38 fun w78 H40 => k (some w78) H40) fun t39 H40 =>
        gd t35 true H40 (fun k => st T H40 (v_un .not (gv t39) H40) fun w77 H42 => k (some w77) H42) fun t41 H42 =>
        st T H42 (v_pick t35 (gv t41) (.bool false) H42) fun t43 H44 =>
        br t43
          (Q (.int .i64 6) H44)
          (gd t7 true H44 (fun k => st T H44 (v_off 1 x_1 H44) fun w76 H46 => k (some w76) H46) fun t45 H46 =>
          gd t7 true H46 (fun k => st T H46 (v_load (gv t45) H46) fun w75 H48 => k (some w75) H48) fun t47 H48 =>
          gd t7 true H48 (fun k =>  k (some s_0) H48) fun t49 H50 =>
          gd t7 true H50 (fun k => st T H50 (v_nilCheck (gv t49) H50) fun w73 H52 => k (some w73) H52) fun t51 H52 =>
          gd t7 true H52 (fun k => st T H52 (v_off 0 (gv t51) H52) fun w72 H54 => k (some w72) H54) fun t53 H54 =>
          gd t7 true H54 (fun k => st T H54 (v_off 5 (gv t53) H54) fun w71 H56 => k (some w71) H56) fun t55 H56 =>
          gd t7 true H56 (fun k => st T H56 (v_load (gv t55) H56) fun w70 H58 => k (some w70) H58) fun t57 H58 =>
          gd t7 true H58 (fun k => st T H58 (v_bin .sub (gv t57) (.int .i64 1) H58) fun w69 H60 => k (some w69) H60) fun t59 H60 =>
          gd t7 true H60 (fun k => Fn T 64 #[(gv t47), (.int .i64 0), (gv t59)] H60 fun w68 H62 => k (some w68) H62) fun t61 H62 =>
          gd t7 true H62 (fun k => st T H62 (v_un .not (gv t61) H62) fun w67 H64 => k (some w67) H64) fun t63 H64 =>
          st T H64 (v_pick t7 (gv t63) (.bool false) H64) fun t65 H66 =>
          br t65
            (Q (.int .i64 1) H66)
            (Q (.int .i64 0) H66)))))
  ) := by kernel_rfl
/-- (*haycroft/session.Session).Outcome -/
theorem e_55 (s_0 serial_1 : Value) (H : AHeap) (Q : Value → AHeap → Prop) : fnP T 55 #[s_0, serial_1] H Q = (
  st T H (v_new 36 #[(.int .i64 0), (.string (strB []))] H) fun t1 H2 =>
  st T H2 (v_eq false .pointer s_0 (.pointer none) H2) fun t3 H4 =>
  br t3
    (st T H4 (v_build #[(.int .i64 0), (.string (strB []))] #[(0, 1), (1, 1)] [] H4) fun t5 H6 =>
    st T H6 (v_store 2 t1 t5 H6) fun u7 H8 =>
    opt (rdN H8 2 t1) fun r9 =>
    Q (.tuple #[(.agg r9), (.bool false)]) H8)
    (st T H4 (v_nilCheck s_0 H4) fun t10 H11 =>
    st T H11 (v_off 8 t10 H11) fun t12 H13 =>
    st T H13 (v_load t12 H13) fun t14 H15 =>
    st T H15 (v_lookup (.one 1) (.agg #[(.int .i64 0), (.string (strB []))]) true t14 serial_1 H15) fun t16 H17 =>
    st T H17 (v_extract t16 0 H17) fun t18 H19 =>
    st T H19 (v_extract t16 1 H19) fun t20 H21 =>
    st T H21 (v_new 36 #[(.int .i64 0), (.string (strB []))] H21) fun out_22 H23 =>
    st T H23 (v_store 2 out_22 t18 H23) fun u24 H25 =>
    st T H25 (v_loadN 2 out_22 H25) fun t26 H27 =>
    st T H27 (v_store 2 t1 t26 H27) fun u28 H29 =>
    opt (rdN H29 2 t1) fun r30 =>
    Q (.tuple #[(.agg r30), t20]) H29)
  ) := by kernel_rfl
/-- haycroft/store.Right -/
theorem e_56 (c_0 : Value) (H : AHeap) (Q : Value → AHeap → Prop) : fnP T 56 #[c_0] H Q = (
  st T H (v_box 23 c_0 H) fun c_1 H2 =>
  st T H2 (v_off 0 c_1 H2) fun t3 H4 =>
  st T H4 (v_load t3 H4) fun t5 H6 =>
  Fn T 119 #[t5] H6 fun t7 H8 =>
  gd t7 true H8 (fun k => st T H8 (v_off 1 c_1 H8) fun w63 H10 => k (some w63) H10) fun t9 H10 =>
  gd t7 true H10 (fun k => st T H10 (v_load (gv t9) H10) fun w62 H12 => k (some w62) H12) fun t11 H12 =>
  gd t7 true H12 (fun k => Fn T 64 #[(gv t11), (.int .i64 2), (.int .i64 8)] H12 fun w61 H14 => k (some w61) H14) fun t13 H14 =>
  st T H14 (v_pick t7 (gv t13) (.bool false) H14) fun t15 H16 =>
  gd t15 true H16 (fun k => st T H16 (v_off 2 c_1 H16) fun w60 H18 => k (some w60) H18) fun t17 H18 =>
  gd t15 true H18 (fun k => st T H18 (v_load (gv t17) H18) fun w59 H20 => k (some w59) H20) fun t19 H20 =>
  gd t15 true H20 (fun k => Fn T 64 #[(gv t19), (.int .i64 1), (.int .i64 64)] H20 fun w58 H22 => k (some w58) H22) fun t21 H22 =>
  st T H22 (v_pick t15 (gv t21) (.bool false) H22) fun t23 H24 =>
  gd t23 true H24 (fun k => st T H24 (v_off 3 c_1 H24) fun w57 H26 => k (some w57) H26) fun t25 H26 =>
  gd t23 true H26 (fun k => st T H26 (v_load (gv t25) H26) fun w56 H28 => k (some w56) H28) fun t27 H28 =>
  gd t23 true H28 (fun k => Fn T 120 #[(gv t27)] H28 fun w55 H30 => k (some w55) H30) fun t29 H30 =>
  st T H30 (v_pick t23 (gv t29) (.bool false) H30) fun t31 H32 =>
  gd t31 true H32 (fun k => st T H32 (v_off 4 c_1 H32) fun w54 H34 => k (some w54) H34) fun t33 H34 =>
  gd t31 true H34 (fun k => st T H34 (v_load (gv t33) H34) fun w53 H36 => k (some w53) H36) fun t35 H36 =>
  gd t31 true H36 (fun k => Fn T 64 #[(gv t35), (.int .i64 0), (.int .i64 64)] H36 fun w52 H38 => k (some w52) H38) fun t37 H38 =>
  st T H38 (v_pick t31 (gv t37) (.bool false) H38) fun t39 H40 =>
  gd t39 true H40 (fun k => st T H40 (v_off 5 c_1 H40) fun w51 H42 => k (some w51) H42) fun t41 H42 =>
  gd t39 true H42 (fun k => st T H42 (v_load (gv t41) H42) fun w50 H44 => k (some w50) H44) fun t43 H44 =>
  gd t39 true H44 (fun k => Fn T 64 #[(gv t43), (.int .i64 1), (.int .i64 8)] H44 fun w49 H46 => k (some w49) H46) fun t45 H46 =>
  st T H46 (v_pick t39 (gv t45) (.bool false) H46) fun t47 H48 =>
  Q t47 H48
  ) := by kernel_rfl
/-- (*haycroft/device.Device).On -/
theorem e_57 (d_0 : Value) (H : AHeap) (Q : Value → AHeap → Prop) : fnP T 57 #[d_0] H Q = (
  Fn T 59 #[d_0] H fun t1 H2 =>
  st T H2 (v_bin .eql t1 (.int .i64 0) H2) fun t3 H4 =>
  Q t3 H4
  ) := by kernel_rfl
/-- (*haycroft/device.Device).power -/
theorem e_59 (d_0 : Value) (H : AHeap) (Q : Value → AHeap → Prop) : fnP T 59 #[d_0] H Q = (
  st T H (v_eq false .pointer d_0 (.pointer none) H) fun t1 H2 =>
  br t1
    (Q (.int .i64 2) H2)
    (st T H2 (v_nilCheck d_0 H2) fun t3 H4 =>
    st T H4 (v_off 0 t3 H4) fun t5 H6 =>
    st T H6 (v_load t5 H6) fun t7 H8 =>
    br t7
      (Q (.int .i64 6) H8)
      (Q (.int .i64 0) H8))
  ) := by kernel_rfl
/-- (*haycroft/device.Device).Flight -/
theorem e_60 (d_0 : Value) (H : AHeap) (Q : Value → AHeap → Prop) : fnP T 60 #[d_0] H Q = (
  st T H (v_eq false .pointer d_0 (.pointer none) H) fun t1 H2 =>
  br t1
    (Q (.slice none 0 0) H2)
    (st T H2 (v_nilCheck d_0 H2) fun t3 H4 =>
    st T H4 (v_off 2 t3 H4) fun t5 H6 =>
    st T H6 (v_load t5 H6) fun t7 H8 =>
    Fn T 125 #[t7] H8 fun t9 H10 =>
    Fn T 124 #[t9] H10 fun t11 H12 =>
    Q t11 H12)
  ) := by kernel_rfl
/-- haycroft/haycroftref02.Size -/
theorem e_62 (bits_0 : Value) (H : AHeap) (Q : Value → AHeap → Prop) : fnP T 62 #[bits_0] H Q = (
  st T H (v_bin .eql bits_0 (.int .i64 5) H) fun t1 H2 =>
  br t1
    (Q (.int .i64 32) H2)
    (st T H2 (v_bin .eql bits_0 (.int .i64 6) H2) fun t3 H4 =>
    br t3
      (Q (.int .i64 64) H4)
      (st T H4 (v_bin .eql bits_0 (.int .i64 7) H4) fun t5 H6 =>
      br t5
        (Q (.int .i64 128) H6)
        (st T H6 (v_bin .eql bits_0 (.int .i64 8) H6) fun t7 H8 =>
        br t7
          (Q (.int .i64 256) H8)
          (st T H8 (v_bin .eql bits_0 (.int .i64 9) H8) fun t9 H10 =>
          br t9
            (Q (.int .i64 512) H10)
            (Q (.int .i64 0) H10)))))
  ) := by kernel_rfl
/-- haycroft/haycroftref03.May -/
theorem e_63 (n_0 : Value) (H : AHeap) (Q : Value → AHeap → Prop) : fnP T 63 #[n_0] H Q = (
  jn (fun (H2 : AHeap) =>
    Q (.bool false) H2
    ) fun J1 =>
  lpP T 63 0 [2] (envOf [(0, n_0), (3, (.int .i64 1))]) H fun x3 g4 H5 =>
  blkP x3 0
    (J1 H5)
    (seqP x3
      (J1 H5)
      (retP x3
        (Q (g4 2) H5)))
  ) := by kernel_rfl
theorem l_63_0 (n_1 k_2 : Value) (H : AHeap) (Q : AExit → FE → AHeap → Prop) : lpB T 63 0 [2] (envOf [(0, n_1), (3, k_2)]) H Q = (
  st T H (v_bin .leq k_2 (.int .i64 1024) H) fun t4 H5 =>
  br t4
    (st T H5 (v_bin .eql k_2 n_1 H5) fun t6 H7 =>
    br t6
      (Q .ret (envOf [(2, (.bool true))]) H7)
      (st T H7 (v_bin .mul k_2 (.int .i64 2) H7) fun t8 H9 =>
      lpP T 63 0 [2] (envOf [(0, n_1), (3, t8)]) H9 Q))
    (Q (.exit 0) (envOf [(2, undef)]) H5)
  ) := by kernel_rfl
/-- haycroft/store.within -/
theorem e_64 (n_0 least_1 most_2 : Value) (H : AHeap) (Q : Value → AHeap → Prop) : fnP T 64 #[n_0, least_1, most_2] H Q = (
  st T H (v_bin .geq n_0 least_1 H) fun t1 H2 =>
  gd t1 true H2 (fun k =>  k (some n_0) H2) fun t3 H4 =>
  gd t1 true H4 (fun k =>  k (some most_2) H4) fun t5 H6 =>
  gd t1 true H6 (fun k => st T H6 (v_bin .leq (gv t3) (gv t5) H6) fun w11 H8 => k (some w11) H8) fun t7 H8 =>
  st T H8 (v_pick t1 (gv t7) (.bool false) H8) fun t9 H10 =>
  Q t9 H10
  ) := by kernel_rfl
/-- haycroft/place.May -/
theorem e_119 (bits_0 : Value) (H : AHeap) (Q : Value → AHeap → Prop) : fnP T 119 #[bits_0] H Q = (
  st T H (v_bin .geq bits_0 (.int .i64 5) H) fun t1 H2 =>
  gd t1 true H2 (fun k =>  k (some bits_0) H2) fun t3 H4 =>
  gd t1 true H4 (fun k => st T H4 (v_bin .leq (gv t3) (.int .i64 9) H4) fun w9 H6 => k (some w9) H6) fun t5 H6 =>
  st T H6 (v_pick t1 (gv t5) (.bool false) H6) fun t7 H8 =>
  Q t7 H8
  ) := by kernel_rfl
/-- haycroft/mix.May -/
theorem e_120 (n_0 : Value) (H : AHeap) (Q : Value → AHeap → Prop) : fnP T 120 #[n_0] H Q = (
  st T H (v_bin .geq n_0 (.int .i64 1) H) fun t1 H2 =>
  gd t1 true H2 (fun k =>  k (some n_0) H2) fun t3 H4 =>
  gd t1 true H4 (fun k => st T H4 (v_bin .leq (gv t3) (.int .i64 1024) H4) fun w26 H6 => k (some w26) H6) fun t5 H6 =>
  st T H6 (v_pick t1 (gv t5) (.bool false) H6) fun t7 H8 =>
  gd t7 true H8 (fun k =>  k (some n_0) H8) fun t9 H10 =>
  gd t7 true H10 (fun k =>  k (some n_0) H10) fun t11 H12 =>
  gd t7 true H12 (fun k => st T H12 (v_bin .sub (gv t11) (.int .i64 1) H12) fun w23 H14 => k (some w23) H14) fun t13 H14 =>
  gd t7 true H14 (fun k => st T H14 (v_bin .and (gv t9) (gv t13) H14) fun w22 H16 => k (some w22) H16) fun t15 H16 =>
  gd t7 true H16 (fun k => st T H16 (v_bin .eql (gv t15) (.int .i64 0) H16) fun w21 H18 => k (some w21) H18) fun t17 H18 =>
  st T H18 (v_pick t7 (gv t17) (.bool false) H18) fun t19 H20 =>
  Q t19 H20
  ) := by kernel_rfl
/-- maps.Keys[map[int]haycroft/device.job,int,haycroft/device.job] -/
theorem e_125 (m_0 : Value) (H : AHeap) (Q : Value → AHeap → Prop) : fnP T 125 #[m_0] H Q = (
  st T H (v_box 106 m_0 H) fun m_1 H2 =>
  st T H2 (v_makeFunc 224 [] [m_1] H2) fun t3 H4 =>
  Q t3 H4
  ) := by kernel_rfl
end Go.Aev
