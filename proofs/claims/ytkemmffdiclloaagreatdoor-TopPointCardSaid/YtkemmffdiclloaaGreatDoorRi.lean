import Derived.Test.YtkemmffdiclloaaGreatDoorRh
import Derived.Test.YtkemmffdiclloaaGreatDoorRf
import Derived.Test.YtkemmffdiclloaaGreatDoorProg
import Derived.Handy
import Derived.Shelf.Strings.OnBuilder
import Derived.Shelf.Small.Bits
set_option linter.unusedVariables false
set_option linter.unusedSimpArgs false
/- The closed run's table of functions. -/
namespace Go.RE
noncomputable section
open Go.RowKit
def tbl : T AFn := (.n none (.n none (.n none (.n (some af7) (.n (some af15) (.n (some af31) (.n (some af63) (.n (some (.ext add64)) .e (.n (some af383) .e .e)) (.n (some af191) .e (.n (some af447) .e .e))) (.n (some af95) (.n (some af159) .e (.n (some af415) .e .e)) (.n (some af223) .e .e))) (.n (some af47) (.n (some af79) (.n none .e (.n (some (.ext countByte)) .e .e)) (.n none .e (.n (some af463) .e .e))) (.n (some af111) (.n (some af175) .e .e) (.n (some af239) .e .e)))) (.n (some af23) (.n none (.n (some af71) (.n none (.n (some af263) .e .e) .e) (.n none (.n (some af327) .e .e) (.n (some (.ext indexByte)) .e .e))) (.n (some af103) (.n (some af167) (.n (some af295) .e .e) (.n (some af423) .e .e)) (.n (some af231) (.n (some af359) .e .e) .e))) (.n (some af55) (.n (some af87) (.n (some af151) (.n (some af279) .e .e) (.n (some af407) .e .e)) .e) (.n none (.n (some af183) (.n (some af311) .e .e) .e) (.n (some af247) (.n (some af375) .e .e) .e))))) (.n none (.n none (.n (some af35) (.n (some af67) (.n (some af131) (.n (some af259) .e .e) (.n (some af387) .e .e)) (.n none .e (.n (some af451) .e .e))) (.n (some af99) (.n (some af163) (.n (some af291) .e .e) (.n (some af419) .e .e)) (.n (some af227) (.n (some af355) .e .e) .e))) (.n (some af51) (.n (some af83) (.n (some af147) (.n (some af275) .e .e) .e) .e) (.n (some af115) (.n (some af179) (.n (some af307) .e .e) .e) (.n (some af243) .e .e)))) (.n (some af27) (.n none (.n (some af75) (.n none .e (.n (some af395) .e .e)) (.n (some af203) .e .e)) (.n (some af107) (.n (some af171) (.n (some af299) .e .e) (.n (some af427) .e .e)) (.n (some af235) (.n (some af363) .e .e) .e))) (.n none (.n (some af91) (.n (some af155) .e .e) (.n (some af219) (.n (some af347) .e .e) .e)) (.n none (.n (some af187) (.n (some af315) .e .e) .e) (.n (some af251) (.n (some af379) .e .e) .e)))))) (.n none (.n (some af9) (.n none (.n (some af33) (.n (some af65) (.n (some (.ext sub64)) (.n (some af257) .e .e) (.n (some af385) .e .e)) (.n none (.n (some af321) .e .e) (.n (some af449) .e .e))) (.n (some af97) (.n none (.n (some af289) .e .e) (.n (some af417) .e .e)) (.n none (.n (some af353) .e .e) .e))) (.n (some af49) (.n (some af81) (.n (some af145) .e (.n (some af401) .e .e)) .e) (.n (some af113) (.n (some af177) (.n (some af305) .e .e) .e) (.n (some af241) (.n (some af369) .e .e) .e)))) (.n none (.n (some af41) (.n (some af73) (.n none (.n (some af265) .e .e) .e) (.n none (.n (some af329) .e .e) .e)) (.n (some af105) (.n (some af169) .e (.n (some af425) .e .e)) (.n none (.n (some af361) .e .e) .e))) (.n (some af57) (.n (some af89) (.n (some af153) (.n (some af281) .e .e) .e) (.n (some af217) (.n (some af345) .e .e) .e)) (.n none (.n (some af185) (.n (some af313) .e .e) .e) (.n (some af249) .e .e))))) (.n (some af13) (.n (some af21) (.n (some af37) (.n (some af69) (.n (some af133) (.n (some af261) .e .e) .e) .e) (.n (some af101) (.n (some af165) .e (.n (some af421) .e .e)) (.n (some af229) .e .e))) (.n (some af53) (.n (some af85) (.n (some af149) .e .e) .e) (.n (some af117) (.n (some af181) (.n (some af309) .e .e) .e) (.n (some af245) (.n (some af373) .e .e) .e)))) (.n (some af29) (.n (some af45) (.n (some af77) .e (.n none (.n (some af333) .e .e) (.n (some af461) .e .e))) (.n (some af109) (.n (some af173) (.n (some af301) .e .e) .e) (.n (some af237) (.n (some af365) .e .e) .e))) (.n none (.n (some af93) (.n (some af157) .e .e) (.n (some af221) (.n (some af349) .e .e) .e)) (.n none (.n (some af189) .e .e) (.n (some af253) (.n (some af381) .e .e) .e))))))) (.n none (.n none (.n (some af8) (.n (some af16) (.n (some af32) (.n (some af64) (.n (some af128) (.n none (.n (some af512) .e .e) .e) (.n (some af384) .e .e)) (.n (some af192) .e (.n (some af448) .e .e))) (.n (some af96) (.n (some af160) (.n (some af288) .e .e) (.n (some af416) .e .e)) (.n (some af224) .e .e))) (.n (some af48) (.n (some af80) (.n (some af144) .e (.n (some af400) .e .e)) (.n (some af208) .e (.n (some af464) .e .e))) (.n (some af112) (.n (some af176) (.n (some af304) .e .e) .e) (.n (some af240) .e .e)))) (.n (some af24) (.n (some af40) (.n (some af72) (.n none (.n (some af264) .e .e) .e) (.n none (.n (some af328) .e .e) .e)) (.n (some af104) (.n (some af168) (.n (some af296) .e .e) (.n (some af424) .e .e)) (.n none (.n (some af360) .e .e) .e))) (.n (some af56) (.n (some af88) (.n (some af152) (.n (some af280) .e .e) .e) (.n (some af216) (.n (some af344) .e .e) (.n (some af472) .e .e))) (.n none (.n (some af184) (.n (some af312) .e .e) .e) (.n (some af248) .e (.n (some af504) .e .e)))))) (.n none (.n none (.n (some af36) (.n (some af68) (.n (some af132) (.n (some af260) .e .e) .e) (.n none (.n (some af324) .e .e) (.n (some af452) .e .e))) (.n (some af100) (.n (some af164) .e (.n (some af420) .e .e)) (.n (some af228) (.n (some af356) .e .e) .e))) (.n (some af52) (.n (some af84) (.n (some af148) .e .e) .e) (.n (some af116) (.n (some af180) .e .e) (.n (some af244) .e .e)))) (.n (some af28) (.n none (.n (some af76) .e (.n none (.n (some af332) .e .e) (.n (some af460) .e .e))) (.n none (.n (some af172) .e .e) (.n (some af236) (.n (some af364) .e .e) .e))) (.n none (.n (some af92) (.n (some af156) .e .e) (.n (some af220) (.n (some af348) .e .e) (.n (some af476) .e .e))) (.n none (.n none (.n (some af316) .e .e) .e) (.n none (.n (some af380) .e .e) .e)))))) (.n none (.n (some af10) (.n (some af18) (.n (some af34) (.n (some af66) (.n (some af130) (.n (some (.sum joinA)) .e .e) (.n (some af386) .e .e)) (.n none (.n (some af322) .e .e) (.n (some af450) .e .e))) (.n none (.n none (.n (some af290) .e .e) (.n (some af418) .e .e)) (.n (some af226) (.n (some af354) .e .e) .e))) (.n (some af50) (.n none (.n (some af146) .e (.n (some af402) .e .e)) .e) (.n (some af114) (.n (some af178) .e (.n (some af434) .e .e)) (.n (some af242) (.n (some af370) .e .e) .e)))) (.n (some af26) (.n none (.n (some af74) (.n none (.n (some af266) .e .e) .e) (.n none (.n (some af330) .e .e) .e)) (.n (some af106) (.n none (.n (some af298) .e .e) (.n (some af426) .e .e)) (.n (some af234) .e .e))) (.n (some af58) (.n (some af90) (.n (some af154) .e .e) (.n (some af218) .e .e)) (.n none (.n (some af186) (.n (some af314) .e .e) .e) (.n (some af250) (.n (some af378) .e .e) .e))))) (.n (some af14) (.n (some af22) (.n (some af38) (.n (some af70) (.n (some af134) (.n (some af262) .e .e) .e) .e) (.n (some af102) (.n (some af166) (.n (some af294) .e .e) (.n (some af422) .e .e)) (.n (some af230) (.n (some af358) .e .e) .e))) (.n (some af54) (.n (some af86) (.n (some af150) (.n (some af278) .e .e) .e) .e) (.n none (.n none (.n (some af310) .e .e) .e) (.n (some af246) (.n (some af374) .e .e) .e)))) (.n (some af30) (.n (some af46) (.n (some af78) .e (.n none (.n (some af334) .e .e) .e)) (.n (some af110) (.n (some af174) (.n (some af302) .e .e) .e) (.n (some af238) .e .e))) (.n none (.n (some af94) (.n (some af158) (.n (some af286) .e .e) .e) (.n (some af222) (.n (some af350) .e .e) .e)) (.n (some af126) (.n (some af190) .e .e) (.n none (.n (some af382) .e .e) .e))))))))
def mtT : MT := fun t n => match t, n with
  | 434, "Len" => some (504, false)
  | 434, "Less" => some (505, false)
  | 434, "Swap" => some (506, false)
  | 434, "Push" => some (512, true)
  | 434, "Pop" => some (511, true)
  | _, _ => none
/-- What the run must end with. -/
def resB : AV → Hp → Bool := fun v _ => match v with
  | .b x => x
  | _ => false
end
end Go.RE
namespace Go.Proofs
open Go.RE
noncomputable section
noncomputable def tyT : T TypeInfo := (.n (some Tryz.t0) (.n (some Tryz.t1) (.n (some Tryz.t3) (.n (some Tryz.t7) (.n (some Tryz.t15) (.n (some Tryz.t31) (.n (some Tryz.t63) (.n (some Tryz.t127) (.n (some Tryz.t255) (.n (some Tryz.t511) .e .e) .e) (.n (some Tryz.t383) .e .e)) (.n (some Tryz.t191) (.n (some Tryz.t319) (.n (some Tryz.t575) .e .e) .e) (.n (some Tryz.t447) .e .e))) (.n (some Tryz.t95) (.n (some Tryz.t159) (.n (some Tryz.t287) (.n (some Tryz.t543) .e .e) .e) (.n (some Tryz.t415) .e .e)) (.n (some Tryz.t223) (.n (some Tryz.t351) .e .e) (.n (some Tryz.t479) .e .e)))) (.n (some Tryz.t47) (.n (some Tryz.t79) (.n (some Tryz.t143) (.n (some Tryz.t271) (.n (some Tryz.t527) .e .e) .e) (.n (some Tryz.t399) .e .e)) (.n (some Tryz.t207) (.n (some Tryz.t335) .e .e) (.n (some Tryz.t463) .e .e))) (.n (some Tryz.t111) (.n (some Tryz.t175) (.n (some Tryz.t303) (.n (some Tryz.t559) .e .e) .e) (.n (some Tryz.t431) .e .e)) (.n (some Tryz.t239) (.n (some Tryz.t367) .e .e) (.n (some Tryz.t495) .e .e))))) (.n (some Tryz.t23) (.n (some Tryz.t39) (.n (some Tryz.t71) (.n (some Tryz.t135) (.n (some Tryz.t263) (.n (some Tryz.t519) .e .e) .e) (.n (some Tryz.t391) .e .e)) (.n (some Tryz.t199) (.n (some Tryz.t327) .e .e) (.n (some Tryz.t455) .e .e))) (.n (some Tryz.t103) (.n (some Tryz.t167) (.n (some Tryz.t295) (.n (some Tryz.t551) .e .e) .e) (.n (some Tryz.t423) .e .e)) (.n (some Tryz.t231) (.n (some Tryz.t359) .e .e) (.n (some Tryz.t487) .e .e)))) (.n (some Tryz.t55) (.n (some Tryz.t87) (.n (some Tryz.t151) (.n (some Tryz.t279) (.n (some Tryz.t535) .e .e) .e) (.n (some Tryz.t407) .e .e)) (.n (some Tryz.t215) (.n (some Tryz.t343) .e .e) (.n (some Tryz.t471) .e .e))) (.n (some Tryz.t119) (.n (some Tryz.t183) (.n (some Tryz.t311) (.n (some Tryz.t567) .e .e) .e) (.n (some Tryz.t439) .e .e)) (.n (some Tryz.t247) (.n (some Tryz.t375) .e .e) (.n (some Tryz.t503) .e .e)))))) (.n (some Tryz.t11) (.n (some Tryz.t19) (.n (some Tryz.t35) (.n (some Tryz.t67) (.n (some Tryz.t131) (.n (some Tryz.t259) (.n (some Tryz.t515) .e .e) .e) (.n (some Tryz.t387) .e .e)) (.n (some Tryz.t195) (.n (some Tryz.t323) .e .e) (.n (some Tryz.t451) .e .e))) (.n (some Tryz.t99) (.n (some Tryz.t163) (.n (some Tryz.t291) (.n (some Tryz.t547) .e .e) .e) (.n (some Tryz.t419) .e .e)) (.n (some Tryz.t227) (.n (some Tryz.t355) .e .e) (.n (some Tryz.t483) .e .e)))) (.n (some Tryz.t51) (.n (some Tryz.t83) (.n (some Tryz.t147) (.n (some Tryz.t275) (.n (some Tryz.t531) .e .e) .e) (.n (some Tryz.t403) .e .e)) (.n (some Tryz.t211) (.n (some Tryz.t339) .e .e) (.n (some Tryz.t467) .e .e))) (.n (some Tryz.t115) (.n (some Tryz.t179) (.n (some Tryz.t307) (.n (some Tryz.t563) .e .e) .e) (.n (some Tryz.t435) .e .e)) (.n (some Tryz.t243) (.n (some Tryz.t371) .e .e) (.n (some Tryz.t499) .e .e))))) (.n (some Tryz.t27) (.n (some Tryz.t43) (.n (some Tryz.t75) (.n (some Tryz.t139) (.n (some Tryz.t267) (.n (some Tryz.t523) .e .e) .e) (.n (some Tryz.t395) .e .e)) (.n (some Tryz.t203) (.n (some Tryz.t331) .e .e) (.n (some Tryz.t459) .e .e))) (.n (some Tryz.t107) (.n (some Tryz.t171) (.n (some Tryz.t299) (.n (some Tryz.t555) .e .e) .e) (.n (some Tryz.t427) .e .e)) (.n (some Tryz.t235) (.n (some Tryz.t363) .e .e) (.n (some Tryz.t491) .e .e)))) (.n (some Tryz.t59) (.n (some Tryz.t91) (.n (some Tryz.t155) (.n (some Tryz.t283) (.n (some Tryz.t539) .e .e) .e) (.n (some Tryz.t411) .e .e)) (.n (some Tryz.t219) (.n (some Tryz.t347) .e .e) (.n (some Tryz.t475) .e .e))) (.n (some Tryz.t123) (.n (some Tryz.t187) (.n (some Tryz.t315) (.n (some Tryz.t571) .e .e) .e) (.n (some Tryz.t443) .e .e)) (.n (some Tryz.t251) (.n (some Tryz.t379) .e .e) (.n (some Tryz.t507) .e .e))))))) (.n (some Tryz.t5) (.n (some Tryz.t9) (.n (some Tryz.t17) (.n (some Tryz.t33) (.n (some Tryz.t65) (.n (some Tryz.t129) (.n (some Tryz.t257) (.n (some Tryz.t513) .e .e) .e) (.n (some Tryz.t385) .e .e)) (.n (some Tryz.t193) (.n (some Tryz.t321) (.n (some Tryz.t577) .e .e) .e) (.n (some Tryz.t449) .e .e))) (.n (some Tryz.t97) (.n (some Tryz.t161) (.n (some Tryz.t289) (.n (some Tryz.t545) .e .e) .e) (.n (some Tryz.t417) .e .e)) (.n (some Tryz.t225) (.n (some Tryz.t353) .e .e) (.n (some Tryz.t481) .e .e)))) (.n (some Tryz.t49) (.n (some Tryz.t81) (.n (some Tryz.t145) (.n (some Tryz.t273) (.n (some Tryz.t529) .e .e) .e) (.n (some Tryz.t401) .e .e)) (.n (some Tryz.t209) (.n (some Tryz.t337) .e .e) (.n (some Tryz.t465) .e .e))) (.n (some Tryz.t113) (.n (some Tryz.t177) (.n (some Tryz.t305) (.n (some Tryz.t561) .e .e) .e) (.n (some Tryz.t433) .e .e)) (.n (some Tryz.t241) (.n (some Tryz.t369) .e .e) (.n (some Tryz.t497) .e .e))))) (.n (some Tryz.t25) (.n (some Tryz.t41) (.n (some Tryz.t73) (.n (some Tryz.t137) (.n (some Tryz.t265) (.n (some Tryz.t521) .e .e) .e) (.n (some Tryz.t393) .e .e)) (.n (some Tryz.t201) (.n (some Tryz.t329) .e .e) (.n (some Tryz.t457) .e .e))) (.n (some Tryz.t105) (.n (some Tryz.t169) (.n (some Tryz.t297) (.n (some Tryz.t553) .e .e) .e) (.n (some Tryz.t425) .e .e)) (.n (some Tryz.t233) (.n (some Tryz.t361) .e .e) (.n (some Tryz.t489) .e .e)))) (.n (some Tryz.t57) (.n (some Tryz.t89) (.n (some Tryz.t153) (.n (some Tryz.t281) (.n (some Tryz.t537) .e .e) .e) (.n (some Tryz.t409) .e .e)) (.n (some Tryz.t217) (.n (some Tryz.t345) .e .e) (.n (some Tryz.t473) .e .e))) (.n (some Tryz.t121) (.n (some Tryz.t185) (.n (some Tryz.t313) (.n (some Tryz.t569) .e .e) .e) (.n (some Tryz.t441) .e .e)) (.n (some Tryz.t249) (.n (some Tryz.t377) .e .e) (.n (some Tryz.t505) .e .e)))))) (.n (some Tryz.t13) (.n (some Tryz.t21) (.n (some Tryz.t37) (.n (some Tryz.t69) (.n (some Tryz.t133) (.n (some Tryz.t261) (.n (some Tryz.t517) .e .e) .e) (.n (some Tryz.t389) .e .e)) (.n (some Tryz.t197) (.n (some Tryz.t325) .e .e) (.n (some Tryz.t453) .e .e))) (.n (some Tryz.t101) (.n (some Tryz.t165) (.n (some Tryz.t293) (.n (some Tryz.t549) .e .e) .e) (.n (some Tryz.t421) .e .e)) (.n (some Tryz.t229) (.n (some Tryz.t357) .e .e) (.n (some Tryz.t485) .e .e)))) (.n (some Tryz.t53) (.n (some Tryz.t85) (.n (some Tryz.t149) (.n (some Tryz.t277) (.n (some Tryz.t533) .e .e) .e) (.n (some Tryz.t405) .e .e)) (.n (some Tryz.t213) (.n (some Tryz.t341) .e .e) (.n (some Tryz.t469) .e .e))) (.n (some Tryz.t117) (.n (some Tryz.t181) (.n (some Tryz.t309) (.n (some Tryz.t565) .e .e) .e) (.n (some Tryz.t437) .e .e)) (.n (some Tryz.t245) (.n (some Tryz.t373) .e .e) (.n (some Tryz.t501) .e .e))))) (.n (some Tryz.t29) (.n (some Tryz.t45) (.n (some Tryz.t77) (.n (some Tryz.t141) (.n (some Tryz.t269) (.n (some Tryz.t525) .e .e) .e) (.n (some Tryz.t397) .e .e)) (.n (some Tryz.t205) (.n (some Tryz.t333) .e .e) (.n (some Tryz.t461) .e .e))) (.n (some Tryz.t109) (.n (some Tryz.t173) (.n (some Tryz.t301) (.n (some Tryz.t557) .e .e) .e) (.n (some Tryz.t429) .e .e)) (.n (some Tryz.t237) (.n (some Tryz.t365) .e .e) (.n (some Tryz.t493) .e .e)))) (.n (some Tryz.t61) (.n (some Tryz.t93) (.n (some Tryz.t157) (.n (some Tryz.t285) (.n (some Tryz.t541) .e .e) .e) (.n (some Tryz.t413) .e .e)) (.n (some Tryz.t221) (.n (some Tryz.t349) .e .e) (.n (some Tryz.t477) .e .e))) (.n (some Tryz.t125) (.n (some Tryz.t189) (.n (some Tryz.t317) (.n (some Tryz.t573) .e .e) .e) (.n (some Tryz.t445) .e .e)) (.n (some Tryz.t253) (.n (some Tryz.t381) .e .e) (.n (some Tryz.t509) .e .e)))))))) (.n (some Tryz.t2) (.n (some Tryz.t4) (.n (some Tryz.t8) (.n (some Tryz.t16) (.n (some Tryz.t32) (.n (some Tryz.t64) (.n (some Tryz.t128) (.n (some Tryz.t256) (.n (some Tryz.t512) .e .e) .e) (.n (some Tryz.t384) .e .e)) (.n (some Tryz.t192) (.n (some Tryz.t320) (.n (some Tryz.t576) .e .e) .e) (.n (some Tryz.t448) .e .e))) (.n (some Tryz.t96) (.n (some Tryz.t160) (.n (some Tryz.t288) (.n (some Tryz.t544) .e .e) .e) (.n (some Tryz.t416) .e .e)) (.n (some Tryz.t224) (.n (some Tryz.t352) .e .e) (.n (some Tryz.t480) .e .e)))) (.n (some Tryz.t48) (.n (some Tryz.t80) (.n (some Tryz.t144) (.n (some Tryz.t272) (.n (some Tryz.t528) .e .e) .e) (.n (some Tryz.t400) .e .e)) (.n (some Tryz.t208) (.n (some Tryz.t336) .e .e) (.n (some Tryz.t464) .e .e))) (.n (some Tryz.t112) (.n (some Tryz.t176) (.n (some Tryz.t304) (.n (some Tryz.t560) .e .e) .e) (.n (some Tryz.t432) .e .e)) (.n (some Tryz.t240) (.n (some Tryz.t368) .e .e) (.n (some Tryz.t496) .e .e))))) (.n (some Tryz.t24) (.n (some Tryz.t40) (.n (some Tryz.t72) (.n (some Tryz.t136) (.n (some Tryz.t264) (.n (some Tryz.t520) .e .e) .e) (.n (some Tryz.t392) .e .e)) (.n (some Tryz.t200) (.n (some Tryz.t328) .e .e) (.n (some Tryz.t456) .e .e))) (.n (some Tryz.t104) (.n (some Tryz.t168) (.n (some Tryz.t296) (.n (some Tryz.t552) .e .e) .e) (.n (some Tryz.t424) .e .e)) (.n (some Tryz.t232) (.n (some Tryz.t360) .e .e) (.n (some Tryz.t488) .e .e)))) (.n (some Tryz.t56) (.n (some Tryz.t88) (.n (some Tryz.t152) (.n (some Tryz.t280) (.n (some Tryz.t536) .e .e) .e) (.n (some Tryz.t408) .e .e)) (.n (some Tryz.t216) (.n (some Tryz.t344) .e .e) (.n (some Tryz.t472) .e .e))) (.n (some Tryz.t120) (.n (some Tryz.t184) (.n (some Tryz.t312) (.n (some Tryz.t568) .e .e) .e) (.n (some Tryz.t440) .e .e)) (.n (some Tryz.t248) (.n (some Tryz.t376) .e .e) (.n (some Tryz.t504) .e .e)))))) (.n (some Tryz.t12) (.n (some Tryz.t20) (.n (some Tryz.t36) (.n (some Tryz.t68) (.n (some Tryz.t132) (.n (some Tryz.t260) (.n (some Tryz.t516) .e .e) .e) (.n (some Tryz.t388) .e .e)) (.n (some Tryz.t196) (.n (some Tryz.t324) .e .e) (.n (some Tryz.t452) .e .e))) (.n (some Tryz.t100) (.n (some Tryz.t164) (.n (some Tryz.t292) (.n (some Tryz.t548) .e .e) .e) (.n (some Tryz.t420) .e .e)) (.n (some Tryz.t228) (.n (some Tryz.t356) .e .e) (.n (some Tryz.t484) .e .e)))) (.n (some Tryz.t52) (.n (some Tryz.t84) (.n (some Tryz.t148) (.n (some Tryz.t276) (.n (some Tryz.t532) .e .e) .e) (.n (some Tryz.t404) .e .e)) (.n (some Tryz.t212) (.n (some Tryz.t340) .e .e) (.n (some Tryz.t468) .e .e))) (.n (some Tryz.t116) (.n (some Tryz.t180) (.n (some Tryz.t308) (.n (some Tryz.t564) .e .e) .e) (.n (some Tryz.t436) .e .e)) (.n (some Tryz.t244) (.n (some Tryz.t372) .e .e) (.n (some Tryz.t500) .e .e))))) (.n (some Tryz.t28) (.n (some Tryz.t44) (.n (some Tryz.t76) (.n (some Tryz.t140) (.n (some Tryz.t268) (.n (some Tryz.t524) .e .e) .e) (.n (some Tryz.t396) .e .e)) (.n (some Tryz.t204) (.n (some Tryz.t332) .e .e) (.n (some Tryz.t460) .e .e))) (.n (some Tryz.t108) (.n (some Tryz.t172) (.n (some Tryz.t300) (.n (some Tryz.t556) .e .e) .e) (.n (some Tryz.t428) .e .e)) (.n (some Tryz.t236) (.n (some Tryz.t364) .e .e) (.n (some Tryz.t492) .e .e)))) (.n (some Tryz.t60) (.n (some Tryz.t92) (.n (some Tryz.t156) (.n (some Tryz.t284) (.n (some Tryz.t540) .e .e) .e) (.n (some Tryz.t412) .e .e)) (.n (some Tryz.t220) (.n (some Tryz.t348) .e .e) (.n (some Tryz.t476) .e .e))) (.n (some Tryz.t124) (.n (some Tryz.t188) (.n (some Tryz.t316) (.n (some Tryz.t572) .e .e) .e) (.n (some Tryz.t444) .e .e)) (.n (some Tryz.t252) (.n (some Tryz.t380) .e .e) (.n (some Tryz.t508) .e .e))))))) (.n (some Tryz.t6) (.n (some Tryz.t10) (.n (some Tryz.t18) (.n (some Tryz.t34) (.n (some Tryz.t66) (.n (some Tryz.t130) (.n (some Tryz.t258) (.n (some Tryz.t514) .e .e) .e) (.n (some Tryz.t386) .e .e)) (.n (some Tryz.t194) (.n (some Tryz.t322) .e .e) (.n (some Tryz.t450) .e .e))) (.n (some Tryz.t98) (.n (some Tryz.t162) (.n (some Tryz.t290) (.n (some Tryz.t546) .e .e) .e) (.n (some Tryz.t418) .e .e)) (.n (some Tryz.t226) (.n (some Tryz.t354) .e .e) (.n (some Tryz.t482) .e .e)))) (.n (some Tryz.t50) (.n (some Tryz.t82) (.n (some Tryz.t146) (.n (some Tryz.t274) (.n (some Tryz.t530) .e .e) .e) (.n (some Tryz.t402) .e .e)) (.n (some Tryz.t210) (.n (some Tryz.t338) .e .e) (.n (some Tryz.t466) .e .e))) (.n (some Tryz.t114) (.n (some Tryz.t178) (.n (some Tryz.t306) (.n (some Tryz.t562) .e .e) .e) (.n (some Tryz.t434) .e .e)) (.n (some Tryz.t242) (.n (some Tryz.t370) .e .e) (.n (some Tryz.t498) .e .e))))) (.n (some Tryz.t26) (.n (some Tryz.t42) (.n (some Tryz.t74) (.n (some Tryz.t138) (.n (some Tryz.t266) (.n (some Tryz.t522) .e .e) .e) (.n (some Tryz.t394) .e .e)) (.n (some Tryz.t202) (.n (some Tryz.t330) .e .e) (.n (some Tryz.t458) .e .e))) (.n (some Tryz.t106) (.n (some Tryz.t170) (.n (some Tryz.t298) (.n (some Tryz.t554) .e .e) .e) (.n (some Tryz.t426) .e .e)) (.n (some Tryz.t234) (.n (some Tryz.t362) .e .e) (.n (some Tryz.t490) .e .e)))) (.n (some Tryz.t58) (.n (some Tryz.t90) (.n (some Tryz.t154) (.n (some Tryz.t282) (.n (some Tryz.t538) .e .e) .e) (.n (some Tryz.t410) .e .e)) (.n (some Tryz.t218) (.n (some Tryz.t346) .e .e) (.n (some Tryz.t474) .e .e))) (.n (some Tryz.t122) (.n (some Tryz.t186) (.n (some Tryz.t314) (.n (some Tryz.t570) .e .e) .e) (.n (some Tryz.t442) .e .e)) (.n (some Tryz.t250) (.n (some Tryz.t378) .e .e) (.n (some Tryz.t506) .e .e)))))) (.n (some Tryz.t14) (.n (some Tryz.t22) (.n (some Tryz.t38) (.n (some Tryz.t70) (.n (some Tryz.t134) (.n (some Tryz.t262) (.n (some Tryz.t518) .e .e) .e) (.n (some Tryz.t390) .e .e)) (.n (some Tryz.t198) (.n (some Tryz.t326) .e .e) (.n (some Tryz.t454) .e .e))) (.n (some Tryz.t102) (.n (some Tryz.t166) (.n (some Tryz.t294) (.n (some Tryz.t550) .e .e) .e) (.n (some Tryz.t422) .e .e)) (.n (some Tryz.t230) (.n (some Tryz.t358) .e .e) (.n (some Tryz.t486) .e .e)))) (.n (some Tryz.t54) (.n (some Tryz.t86) (.n (some Tryz.t150) (.n (some Tryz.t278) (.n (some Tryz.t534) .e .e) .e) (.n (some Tryz.t406) .e .e)) (.n (some Tryz.t214) (.n (some Tryz.t342) .e .e) (.n (some Tryz.t470) .e .e))) (.n (some Tryz.t118) (.n (some Tryz.t182) (.n (some Tryz.t310) (.n (some Tryz.t566) .e .e) .e) (.n (some Tryz.t438) .e .e)) (.n (some Tryz.t246) (.n (some Tryz.t374) .e .e) (.n (some Tryz.t502) .e .e))))) (.n (some Tryz.t30) (.n (some Tryz.t46) (.n (some Tryz.t78) (.n (some Tryz.t142) (.n (some Tryz.t270) (.n (some Tryz.t526) .e .e) .e) (.n (some Tryz.t398) .e .e)) (.n (some Tryz.t206) (.n (some Tryz.t334) .e .e) (.n (some Tryz.t462) .e .e))) (.n (some Tryz.t110) (.n (some Tryz.t174) (.n (some Tryz.t302) (.n (some Tryz.t558) .e .e) .e) (.n (some Tryz.t430) .e .e)) (.n (some Tryz.t238) (.n (some Tryz.t366) .e .e) (.n (some Tryz.t494) .e .e)))) (.n (some Tryz.t62) (.n (some Tryz.t94) (.n (some Tryz.t158) (.n (some Tryz.t286) (.n (some Tryz.t542) .e .e) .e) (.n (some Tryz.t414) .e .e)) (.n (some Tryz.t222) (.n (some Tryz.t350) .e .e) (.n (some Tryz.t478) .e .e))) (.n (some Tryz.t126) (.n (some Tryz.t190) (.n (some Tryz.t318) (.n (some Tryz.t574) .e .e) .e) (.n (some Tryz.t446) .e .e)) (.n (some Tryz.t254) (.n (some Tryz.t382) .e .e) (.n (some Tryz.t510) .e .e)))))))))
theorem tyT_all : T.All (fun i a => Tryz.prog.types[i]? = some a) tyT := (.some Tryz.type0 (.some Tryz.type1 (.some Tryz.type3 (.some Tryz.type7 (.some Tryz.type15 (.some Tryz.type31 (.some Tryz.type63 (.some Tryz.type127 (.some Tryz.type255 (.some Tryz.type511 .e .e) .e) (.some Tryz.type383 .e .e)) (.some Tryz.type191 (.some Tryz.type319 (.some Tryz.type575 .e .e) .e) (.some Tryz.type447 .e .e))) (.some Tryz.type95 (.some Tryz.type159 (.some Tryz.type287 (.some Tryz.type543 .e .e) .e) (.some Tryz.type415 .e .e)) (.some Tryz.type223 (.some Tryz.type351 .e .e) (.some Tryz.type479 .e .e)))) (.some Tryz.type47 (.some Tryz.type79 (.some Tryz.type143 (.some Tryz.type271 (.some Tryz.type527 .e .e) .e) (.some Tryz.type399 .e .e)) (.some Tryz.type207 (.some Tryz.type335 .e .e) (.some Tryz.type463 .e .e))) (.some Tryz.type111 (.some Tryz.type175 (.some Tryz.type303 (.some Tryz.type559 .e .e) .e) (.some Tryz.type431 .e .e)) (.some Tryz.type239 (.some Tryz.type367 .e .e) (.some Tryz.type495 .e .e))))) (.some Tryz.type23 (.some Tryz.type39 (.some Tryz.type71 (.some Tryz.type135 (.some Tryz.type263 (.some Tryz.type519 .e .e) .e) (.some Tryz.type391 .e .e)) (.some Tryz.type199 (.some Tryz.type327 .e .e) (.some Tryz.type455 .e .e))) (.some Tryz.type103 (.some Tryz.type167 (.some Tryz.type295 (.some Tryz.type551 .e .e) .e) (.some Tryz.type423 .e .e)) (.some Tryz.type231 (.some Tryz.type359 .e .e) (.some Tryz.type487 .e .e)))) (.some Tryz.type55 (.some Tryz.type87 (.some Tryz.type151 (.some Tryz.type279 (.some Tryz.type535 .e .e) .e) (.some Tryz.type407 .e .e)) (.some Tryz.type215 (.some Tryz.type343 .e .e) (.some Tryz.type471 .e .e))) (.some Tryz.type119 (.some Tryz.type183 (.some Tryz.type311 (.some Tryz.type567 .e .e) .e) (.some Tryz.type439 .e .e)) (.some Tryz.type247 (.some Tryz.type375 .e .e) (.some Tryz.type503 .e .e)))))) (.some Tryz.type11 (.some Tryz.type19 (.some Tryz.type35 (.some Tryz.type67 (.some Tryz.type131 (.some Tryz.type259 (.some Tryz.type515 .e .e) .e) (.some Tryz.type387 .e .e)) (.some Tryz.type195 (.some Tryz.type323 .e .e) (.some Tryz.type451 .e .e))) (.some Tryz.type99 (.some Tryz.type163 (.some Tryz.type291 (.some Tryz.type547 .e .e) .e) (.some Tryz.type419 .e .e)) (.some Tryz.type227 (.some Tryz.type355 .e .e) (.some Tryz.type483 .e .e)))) (.some Tryz.type51 (.some Tryz.type83 (.some Tryz.type147 (.some Tryz.type275 (.some Tryz.type531 .e .e) .e) (.some Tryz.type403 .e .e)) (.some Tryz.type211 (.some Tryz.type339 .e .e) (.some Tryz.type467 .e .e))) (.some Tryz.type115 (.some Tryz.type179 (.some Tryz.type307 (.some Tryz.type563 .e .e) .e) (.some Tryz.type435 .e .e)) (.some Tryz.type243 (.some Tryz.type371 .e .e) (.some Tryz.type499 .e .e))))) (.some Tryz.type27 (.some Tryz.type43 (.some Tryz.type75 (.some Tryz.type139 (.some Tryz.type267 (.some Tryz.type523 .e .e) .e) (.some Tryz.type395 .e .e)) (.some Tryz.type203 (.some Tryz.type331 .e .e) (.some Tryz.type459 .e .e))) (.some Tryz.type107 (.some Tryz.type171 (.some Tryz.type299 (.some Tryz.type555 .e .e) .e) (.some Tryz.type427 .e .e)) (.some Tryz.type235 (.some Tryz.type363 .e .e) (.some Tryz.type491 .e .e)))) (.some Tryz.type59 (.some Tryz.type91 (.some Tryz.type155 (.some Tryz.type283 (.some Tryz.type539 .e .e) .e) (.some Tryz.type411 .e .e)) (.some Tryz.type219 (.some Tryz.type347 .e .e) (.some Tryz.type475 .e .e))) (.some Tryz.type123 (.some Tryz.type187 (.some Tryz.type315 (.some Tryz.type571 .e .e) .e) (.some Tryz.type443 .e .e)) (.some Tryz.type251 (.some Tryz.type379 .e .e) (.some Tryz.type507 .e .e))))))) (.some Tryz.type5 (.some Tryz.type9 (.some Tryz.type17 (.some Tryz.type33 (.some Tryz.type65 (.some Tryz.type129 (.some Tryz.type257 (.some Tryz.type513 .e .e) .e) (.some Tryz.type385 .e .e)) (.some Tryz.type193 (.some Tryz.type321 (.some Tryz.type577 .e .e) .e) (.some Tryz.type449 .e .e))) (.some Tryz.type97 (.some Tryz.type161 (.some Tryz.type289 (.some Tryz.type545 .e .e) .e) (.some Tryz.type417 .e .e)) (.some Tryz.type225 (.some Tryz.type353 .e .e) (.some Tryz.type481 .e .e)))) (.some Tryz.type49 (.some Tryz.type81 (.some Tryz.type145 (.some Tryz.type273 (.some Tryz.type529 .e .e) .e) (.some Tryz.type401 .e .e)) (.some Tryz.type209 (.some Tryz.type337 .e .e) (.some Tryz.type465 .e .e))) (.some Tryz.type113 (.some Tryz.type177 (.some Tryz.type305 (.some Tryz.type561 .e .e) .e) (.some Tryz.type433 .e .e)) (.some Tryz.type241 (.some Tryz.type369 .e .e) (.some Tryz.type497 .e .e))))) (.some Tryz.type25 (.some Tryz.type41 (.some Tryz.type73 (.some Tryz.type137 (.some Tryz.type265 (.some Tryz.type521 .e .e) .e) (.some Tryz.type393 .e .e)) (.some Tryz.type201 (.some Tryz.type329 .e .e) (.some Tryz.type457 .e .e))) (.some Tryz.type105 (.some Tryz.type169 (.some Tryz.type297 (.some Tryz.type553 .e .e) .e) (.some Tryz.type425 .e .e)) (.some Tryz.type233 (.some Tryz.type361 .e .e) (.some Tryz.type489 .e .e)))) (.some Tryz.type57 (.some Tryz.type89 (.some Tryz.type153 (.some Tryz.type281 (.some Tryz.type537 .e .e) .e) (.some Tryz.type409 .e .e)) (.some Tryz.type217 (.some Tryz.type345 .e .e) (.some Tryz.type473 .e .e))) (.some Tryz.type121 (.some Tryz.type185 (.some Tryz.type313 (.some Tryz.type569 .e .e) .e) (.some Tryz.type441 .e .e)) (.some Tryz.type249 (.some Tryz.type377 .e .e) (.some Tryz.type505 .e .e)))))) (.some Tryz.type13 (.some Tryz.type21 (.some Tryz.type37 (.some Tryz.type69 (.some Tryz.type133 (.some Tryz.type261 (.some Tryz.type517 .e .e) .e) (.some Tryz.type389 .e .e)) (.some Tryz.type197 (.some Tryz.type325 .e .e) (.some Tryz.type453 .e .e))) (.some Tryz.type101 (.some Tryz.type165 (.some Tryz.type293 (.some Tryz.type549 .e .e) .e) (.some Tryz.type421 .e .e)) (.some Tryz.type229 (.some Tryz.type357 .e .e) (.some Tryz.type485 .e .e)))) (.some Tryz.type53 (.some Tryz.type85 (.some Tryz.type149 (.some Tryz.type277 (.some Tryz.type533 .e .e) .e) (.some Tryz.type405 .e .e)) (.some Tryz.type213 (.some Tryz.type341 .e .e) (.some Tryz.type469 .e .e))) (.some Tryz.type117 (.some Tryz.type181 (.some Tryz.type309 (.some Tryz.type565 .e .e) .e) (.some Tryz.type437 .e .e)) (.some Tryz.type245 (.some Tryz.type373 .e .e) (.some Tryz.type501 .e .e))))) (.some Tryz.type29 (.some Tryz.type45 (.some Tryz.type77 (.some Tryz.type141 (.some Tryz.type269 (.some Tryz.type525 .e .e) .e) (.some Tryz.type397 .e .e)) (.some Tryz.type205 (.some Tryz.type333 .e .e) (.some Tryz.type461 .e .e))) (.some Tryz.type109 (.some Tryz.type173 (.some Tryz.type301 (.some Tryz.type557 .e .e) .e) (.some Tryz.type429 .e .e)) (.some Tryz.type237 (.some Tryz.type365 .e .e) (.some Tryz.type493 .e .e)))) (.some Tryz.type61 (.some Tryz.type93 (.some Tryz.type157 (.some Tryz.type285 (.some Tryz.type541 .e .e) .e) (.some Tryz.type413 .e .e)) (.some Tryz.type221 (.some Tryz.type349 .e .e) (.some Tryz.type477 .e .e))) (.some Tryz.type125 (.some Tryz.type189 (.some Tryz.type317 (.some Tryz.type573 .e .e) .e) (.some Tryz.type445 .e .e)) (.some Tryz.type253 (.some Tryz.type381 .e .e) (.some Tryz.type509 .e .e)))))))) (.some Tryz.type2 (.some Tryz.type4 (.some Tryz.type8 (.some Tryz.type16 (.some Tryz.type32 (.some Tryz.type64 (.some Tryz.type128 (.some Tryz.type256 (.some Tryz.type512 .e .e) .e) (.some Tryz.type384 .e .e)) (.some Tryz.type192 (.some Tryz.type320 (.some Tryz.type576 .e .e) .e) (.some Tryz.type448 .e .e))) (.some Tryz.type96 (.some Tryz.type160 (.some Tryz.type288 (.some Tryz.type544 .e .e) .e) (.some Tryz.type416 .e .e)) (.some Tryz.type224 (.some Tryz.type352 .e .e) (.some Tryz.type480 .e .e)))) (.some Tryz.type48 (.some Tryz.type80 (.some Tryz.type144 (.some Tryz.type272 (.some Tryz.type528 .e .e) .e) (.some Tryz.type400 .e .e)) (.some Tryz.type208 (.some Tryz.type336 .e .e) (.some Tryz.type464 .e .e))) (.some Tryz.type112 (.some Tryz.type176 (.some Tryz.type304 (.some Tryz.type560 .e .e) .e) (.some Tryz.type432 .e .e)) (.some Tryz.type240 (.some Tryz.type368 .e .e) (.some Tryz.type496 .e .e))))) (.some Tryz.type24 (.some Tryz.type40 (.some Tryz.type72 (.some Tryz.type136 (.some Tryz.type264 (.some Tryz.type520 .e .e) .e) (.some Tryz.type392 .e .e)) (.some Tryz.type200 (.some Tryz.type328 .e .e) (.some Tryz.type456 .e .e))) (.some Tryz.type104 (.some Tryz.type168 (.some Tryz.type296 (.some Tryz.type552 .e .e) .e) (.some Tryz.type424 .e .e)) (.some Tryz.type232 (.some Tryz.type360 .e .e) (.some Tryz.type488 .e .e)))) (.some Tryz.type56 (.some Tryz.type88 (.some Tryz.type152 (.some Tryz.type280 (.some Tryz.type536 .e .e) .e) (.some Tryz.type408 .e .e)) (.some Tryz.type216 (.some Tryz.type344 .e .e) (.some Tryz.type472 .e .e))) (.some Tryz.type120 (.some Tryz.type184 (.some Tryz.type312 (.some Tryz.type568 .e .e) .e) (.some Tryz.type440 .e .e)) (.some Tryz.type248 (.some Tryz.type376 .e .e) (.some Tryz.type504 .e .e)))))) (.some Tryz.type12 (.some Tryz.type20 (.some Tryz.type36 (.some Tryz.type68 (.some Tryz.type132 (.some Tryz.type260 (.some Tryz.type516 .e .e) .e) (.some Tryz.type388 .e .e)) (.some Tryz.type196 (.some Tryz.type324 .e .e) (.some Tryz.type452 .e .e))) (.some Tryz.type100 (.some Tryz.type164 (.some Tryz.type292 (.some Tryz.type548 .e .e) .e) (.some Tryz.type420 .e .e)) (.some Tryz.type228 (.some Tryz.type356 .e .e) (.some Tryz.type484 .e .e)))) (.some Tryz.type52 (.some Tryz.type84 (.some Tryz.type148 (.some Tryz.type276 (.some Tryz.type532 .e .e) .e) (.some Tryz.type404 .e .e)) (.some Tryz.type212 (.some Tryz.type340 .e .e) (.some Tryz.type468 .e .e))) (.some Tryz.type116 (.some Tryz.type180 (.some Tryz.type308 (.some Tryz.type564 .e .e) .e) (.some Tryz.type436 .e .e)) (.some Tryz.type244 (.some Tryz.type372 .e .e) (.some Tryz.type500 .e .e))))) (.some Tryz.type28 (.some Tryz.type44 (.some Tryz.type76 (.some Tryz.type140 (.some Tryz.type268 (.some Tryz.type524 .e .e) .e) (.some Tryz.type396 .e .e)) (.some Tryz.type204 (.some Tryz.type332 .e .e) (.some Tryz.type460 .e .e))) (.some Tryz.type108 (.some Tryz.type172 (.some Tryz.type300 (.some Tryz.type556 .e .e) .e) (.some Tryz.type428 .e .e)) (.some Tryz.type236 (.some Tryz.type364 .e .e) (.some Tryz.type492 .e .e)))) (.some Tryz.type60 (.some Tryz.type92 (.some Tryz.type156 (.some Tryz.type284 (.some Tryz.type540 .e .e) .e) (.some Tryz.type412 .e .e)) (.some Tryz.type220 (.some Tryz.type348 .e .e) (.some Tryz.type476 .e .e))) (.some Tryz.type124 (.some Tryz.type188 (.some Tryz.type316 (.some Tryz.type572 .e .e) .e) (.some Tryz.type444 .e .e)) (.some Tryz.type252 (.some Tryz.type380 .e .e) (.some Tryz.type508 .e .e))))))) (.some Tryz.type6 (.some Tryz.type10 (.some Tryz.type18 (.some Tryz.type34 (.some Tryz.type66 (.some Tryz.type130 (.some Tryz.type258 (.some Tryz.type514 .e .e) .e) (.some Tryz.type386 .e .e)) (.some Tryz.type194 (.some Tryz.type322 .e .e) (.some Tryz.type450 .e .e))) (.some Tryz.type98 (.some Tryz.type162 (.some Tryz.type290 (.some Tryz.type546 .e .e) .e) (.some Tryz.type418 .e .e)) (.some Tryz.type226 (.some Tryz.type354 .e .e) (.some Tryz.type482 .e .e)))) (.some Tryz.type50 (.some Tryz.type82 (.some Tryz.type146 (.some Tryz.type274 (.some Tryz.type530 .e .e) .e) (.some Tryz.type402 .e .e)) (.some Tryz.type210 (.some Tryz.type338 .e .e) (.some Tryz.type466 .e .e))) (.some Tryz.type114 (.some Tryz.type178 (.some Tryz.type306 (.some Tryz.type562 .e .e) .e) (.some Tryz.type434 .e .e)) (.some Tryz.type242 (.some Tryz.type370 .e .e) (.some Tryz.type498 .e .e))))) (.some Tryz.type26 (.some Tryz.type42 (.some Tryz.type74 (.some Tryz.type138 (.some Tryz.type266 (.some Tryz.type522 .e .e) .e) (.some Tryz.type394 .e .e)) (.some Tryz.type202 (.some Tryz.type330 .e .e) (.some Tryz.type458 .e .e))) (.some Tryz.type106 (.some Tryz.type170 (.some Tryz.type298 (.some Tryz.type554 .e .e) .e) (.some Tryz.type426 .e .e)) (.some Tryz.type234 (.some Tryz.type362 .e .e) (.some Tryz.type490 .e .e)))) (.some Tryz.type58 (.some Tryz.type90 (.some Tryz.type154 (.some Tryz.type282 (.some Tryz.type538 .e .e) .e) (.some Tryz.type410 .e .e)) (.some Tryz.type218 (.some Tryz.type346 .e .e) (.some Tryz.type474 .e .e))) (.some Tryz.type122 (.some Tryz.type186 (.some Tryz.type314 (.some Tryz.type570 .e .e) .e) (.some Tryz.type442 .e .e)) (.some Tryz.type250 (.some Tryz.type378 .e .e) (.some Tryz.type506 .e .e)))))) (.some Tryz.type14 (.some Tryz.type22 (.some Tryz.type38 (.some Tryz.type70 (.some Tryz.type134 (.some Tryz.type262 (.some Tryz.type518 .e .e) .e) (.some Tryz.type390 .e .e)) (.some Tryz.type198 (.some Tryz.type326 .e .e) (.some Tryz.type454 .e .e))) (.some Tryz.type102 (.some Tryz.type166 (.some Tryz.type294 (.some Tryz.type550 .e .e) .e) (.some Tryz.type422 .e .e)) (.some Tryz.type230 (.some Tryz.type358 .e .e) (.some Tryz.type486 .e .e)))) (.some Tryz.type54 (.some Tryz.type86 (.some Tryz.type150 (.some Tryz.type278 (.some Tryz.type534 .e .e) .e) (.some Tryz.type406 .e .e)) (.some Tryz.type214 (.some Tryz.type342 .e .e) (.some Tryz.type470 .e .e))) (.some Tryz.type118 (.some Tryz.type182 (.some Tryz.type310 (.some Tryz.type566 .e .e) .e) (.some Tryz.type438 .e .e)) (.some Tryz.type246 (.some Tryz.type374 .e .e) (.some Tryz.type502 .e .e))))) (.some Tryz.type30 (.some Tryz.type46 (.some Tryz.type78 (.some Tryz.type142 (.some Tryz.type270 (.some Tryz.type526 .e .e) .e) (.some Tryz.type398 .e .e)) (.some Tryz.type206 (.some Tryz.type334 .e .e) (.some Tryz.type462 .e .e))) (.some Tryz.type110 (.some Tryz.type174 (.some Tryz.type302 (.some Tryz.type558 .e .e) .e) (.some Tryz.type430 .e .e)) (.some Tryz.type238 (.some Tryz.type366 .e .e) (.some Tryz.type494 .e .e)))) (.some Tryz.type62 (.some Tryz.type94 (.some Tryz.type158 (.some Tryz.type286 (.some Tryz.type542 .e .e) .e) (.some Tryz.type414 .e .e)) (.some Tryz.type222 (.some Tryz.type350 .e .e) (.some Tryz.type478 .e .e))) (.some Tryz.type126 (.some Tryz.type190 (.some Tryz.type318 (.some Tryz.type574 .e .e) .e) (.some Tryz.type446 .e .e)) (.some Tryz.type254 (.some Tryz.type382 .e .e) (.some Tryz.type510 .e .e)))))))))
theorem tyT_ok : TyOk Tryz.prog tyT := .of tyT_all
end
end Go.Proofs
/- Equality of flat types. -/
namespace Go.Proofs
open Go.RE
theorem eq25 (a0 a1 b0 b1 : Int) (w : World) : (Op.equal 25 (.agg #[.int .i64 a0, .int .i64 a1]) (.agg #[.int .i64 b0, .int .i64 b1])).run Tryz.prog w = .ok ([a0, a1] == [b0, b1]) w := by
  show (Op.equalIn (9998 + 1 + 1) 25 _ _).run Tryz.prog w = _
  rw [Op.equalIn]
  simp [go_sem, Tryz.stoodInHeld25]
  by_cases h0 : a0 = b0 <;> by_cases h1 : a1 = b1 <;> simp_all
theorem eq37 (a0 a1 b0 b1 : Int) (w : World) : (Op.equal 37 (.agg #[.int .i64 a0, .int .i64 a1]) (.agg #[.int .i64 b0, .int .i64 b1])).run Tryz.prog w = .ok ([a0, a1] == [b0, b1]) w := by
  show (Op.equalIn (9998 + 1 + 1) 37 _ _).run Tryz.prog w = _
  rw [Op.equalIn]
  simp [go_sem, List.range', List.forIn_cons]
  by_cases h0 : a0 = b0 <;> by_cases h1 : a1 = b1 <;> simp_all
theorem eq513 (a0 a1 b0 b1 : Int) (w : World) : (Op.equal 513 (.agg #[.int .i64 a0, .int .i64 a1]) (.agg #[.int .i64 b0, .int .i64 b1])).run Tryz.prog w = .ok ([a0, a1] == [b0, b1]) w := by
  show (Op.equalIn (9998 + 1 + 1) 513 _ _).run Tryz.prog w = _
  rw [Op.equalIn]
  simp [go_sem, List.range', List.forIn_cons]
  by_cases h0 : a0 = b0 <;> by_cases h1 : a1 = b1 <;> simp_all
theorem eq288 (a0 a1 b0 b1 : Int) (w : World) : (Op.equal 288 (.agg #[.int .u64 a0, .int .u64 a1]) (.agg #[.int .u64 b0, .int .u64 b1])).run Tryz.prog w = .ok ([a0, a1] == [b0, b1]) w := by
  show (Op.equalIn (9998 + 1 + 1) 288 _ _).run Tryz.prog w = _
  rw [Op.equalIn]
  simp [go_sem, Tryz.stoodInHeld288]
  by_cases h0 : a0 = b0 <;> by_cases h1 : a1 = b1 <;> simp_all
theorem eq342 (a0 a1 a2 b0 b1 b2 : Int) (w : World) : (Op.equal 342 (.agg #[.int .u64 a0, .int .i64 a1, .int .i64 a2]) (.agg #[.int .u64 b0, .int .i64 b1, .int .i64 b2])).run Tryz.prog w = .ok ([a0, a1, a2] == [b0, b1, b2]) w := by
  show (Op.equalIn (9998 + 1 + 1) 342 _ _).run Tryz.prog w = _
  rw [Op.equalIn]
  simp [go_sem, Tryz.stoodInHeld342]
  by_cases h0 : a0 = b0 <;> by_cases h1 : a1 = b1 <;> by_cases h2 : a2 = b2 <;> simp_all
theorem eq111 (a0 a1 a2 a3 b0 b1 b2 b3 : Int) (w : World) : (Op.equal 111 (.agg #[.int .i64 a0, .int .i64 a1, .int .i64 a2, .int .i64 a3]) (.agg #[.int .i64 b0, .int .i64 b1, .int .i64 b2, .int .i64 b3])).run Tryz.prog w = .ok ([a0, a1, a2, a3] == [b0, b1, b2, b3]) w := by
  show (Op.equalIn (9998 + 1 + 1) 111 _ _).run Tryz.prog w = _
  rw [Op.equalIn]
  simp [go_sem, Tryz.stoodInHeld111]
  by_cases h0 : a0 = b0 <;> by_cases h1 : a1 = b1 <;> by_cases h2 : a2 = b2 <;> by_cases h3 : a3 = b3 <;> simp_all
theorem eq114 (a0 a1 a2 a3 a4 b0 b1 b2 b3 b4 : Int) (w : World) : (Op.equal 114 (.agg #[.int .i64 a0, .int .i64 a1, .int .i64 a2, .int .i64 a3, .int .i64 a4]) (.agg #[.int .i64 b0, .int .i64 b1, .int .i64 b2, .int .i64 b3, .int .i64 b4])).run Tryz.prog w = .ok ([a0, a1, a2, a3, a4] == [b0, b1, b2, b3, b4]) w := by
  show (Op.equalIn (9998 + 1 + 1) 114 _ _).run Tryz.prog w = _
  rw [Op.equalIn]
  simp [go_sem, Tryz.stoodInHeld114]
  by_cases h0 : a0 = b0 <;> by_cases h1 : a1 = b1 <;> by_cases h2 : a2 = b2 <;> by_cases h3 : a3 = b3 <;> by_cases h4 : a4 = b4 <;> simp_all
def eqT (t : TypeId) : Option (List IntKind) := match t with
  | 25 => some [.i64, .i64]
  | 37 => some [.i64, .i64]
  | 513 => some [.i64, .i64]
  | 288 => some [.u64, .u64]
  | 342 => some [.u64, .i64, .i64]
  | 111 => some [.i64, .i64, .i64, .i64]
  | 114 => some [.i64, .i64, .i64, .i64, .i64]
  | _ => none
theorem eq_of {P : Program} {t : TypeId} (hg : P.eqGuardType P.depth t = false) {u v : Array Value} {w : World} {b : Bool} (h : (Op.equal t (.agg u) (.agg v)).run P w = .ok b w) (x y : Operand) :
    (do eqGuard .eql t x y (.agg u) (.agg v); binOp .eql t (.agg u) (.agg v) : Sem Value).run P w = .ok (.bool b) w ∧
    (do eqGuard .neq t x y (.agg u) (.agg v); binOp .neq t (.agg u) (.agg v) : Sem Value).run P w = .ok (.bool (!b)) w := by
  have e : ∀ op, (op = .eql ∨ op = .neq) → (eqGuard op t x y (.agg u) (.agg v)).run P w = .ok () w := by
    rintro op (rfl | rfl) <;> simp [eqGuard, go_sem, hg]
  constructor
  · rw [Sem.run_bind, e _ (.inl rfl)]
    show (binOp .eql t (.agg u) (.agg v)).run P w = _
    simp [binOp, go_sem, h]
  · rw [Sem.run_bind, e _ (.inr rfl)]
    show (binOp .neq t (.agg u) (.agg v)).run P w = _
    simp [binOp, go_sem, h]
theorem eqT_ok : EqOk Tryz.prog eqT := by
  intro t ks h us vs x y w h1 h2
  unfold eqT at h
  split at h <;> try (cases h; done)
  · injection h with h; subst h
    match us, vs, h1, h2 with
    | [a0, a1], [b0, b1], _, _ => exact eq_of Tryz.eqGuardType25 (eq25 a0 a1 b0 b1 w) x y
  · injection h with h; subst h
    match us, vs, h1, h2 with
    | [a0, a1], [b0, b1], _, _ => exact eq_of Tryz.eqGuardType37 (eq37 a0 a1 b0 b1 w) x y
  · injection h with h; subst h
    match us, vs, h1, h2 with
    | [a0, a1], [b0, b1], _, _ => exact eq_of Tryz.eqGuardType513 (eq513 a0 a1 b0 b1 w) x y
  · injection h with h; subst h
    match us, vs, h1, h2 with
    | [a0, a1], [b0, b1], _, _ => exact eq_of Tryz.eqGuardType288 (eq288 a0 a1 b0 b1 w) x y
  · injection h with h; subst h
    match us, vs, h1, h2 with
    | [a0, a1, a2], [b0, b1, b2], _, _ => exact eq_of Tryz.eqGuardType342 (eq342 a0 a1 a2 b0 b1 b2 w) x y
  · injection h with h; subst h
    match us, vs, h1, h2 with
    | [a0, a1, a2, a3], [b0, b1, b2, b3], _, _ => exact eq_of Tryz.eqGuardType111 (eq111 a0 a1 a2 a3 b0 b1 b2 b3 w) x y
  · injection h with h; subst h
    match us, vs, h1, h2 with
    | [a0, a1, a2, a3, a4], [b0, b1, b2, b3, b4], _, _ => exact eq_of Tryz.eqGuardType114 (eq114 a0 a1 a2 a3 a4 b0 b1 b2 b3 b4 w) x y
/-- A function of the table is right. -/
structure FnG (f : FuncId) (a : AFn) : Prop where
  ok : FnOk Tryz.prog tyT eqT (chkD tyT eqT) f a
end Go.Proofs
/- The methods that a closed run calls through interfaces. -/
namespace Go.Proofs
open Go.RE Go.RowKit
theorem mt_size : Tryz.prog.types.size + Made.depth = 678 := by kernel_rfl
theorem mt_at (a : Addr) (s : String) (w : World) : (receiverAt 434 (.val (.pointer (some a))) false (some s)).run Tryz.prog w = (load a).run Tryz.prog w := by kernel_rfl
theorem mt_len (a : Addr) (v : Value) (w : World) (h : w.cell? a = some v) : (method 678 434 (.pointer (some a)) "Len").run Tryz.prog w = .ok (504, v) w := by
  have e : (method 678 434 (.pointer (some a)) "Len").run Tryz.prog w = (do let r ← receiverAt 434 (.val (.pointer (some a))) false (some "Len"); pure (504, r) : Sem (FuncId × Value)).run Tryz.prog w := by kernel_rfl
  rw [e, Sem.run_bind, mt_at a "Len" w, run_load, h]
  rfl
theorem mt_less (a : Addr) (v : Value) (w : World) (h : w.cell? a = some v) : (method 678 434 (.pointer (some a)) "Less").run Tryz.prog w = .ok (505, v) w := by
  have e : (method 678 434 (.pointer (some a)) "Less").run Tryz.prog w = (do let r ← receiverAt 434 (.val (.pointer (some a))) false (some "Less"); pure (505, r) : Sem (FuncId × Value)).run Tryz.prog w := by kernel_rfl
  rw [e, Sem.run_bind, mt_at a "Less" w, run_load, h]
  rfl
theorem mt_swap (a : Addr) (v : Value) (w : World) (h : w.cell? a = some v) : (method 678 434 (.pointer (some a)) "Swap").run Tryz.prog w = .ok (506, v) w := by
  have e : (method 678 434 (.pointer (some a)) "Swap").run Tryz.prog w = (do let r ← receiverAt 434 (.val (.pointer (some a))) false (some "Swap"); pure (506, r) : Sem (FuncId × Value)).run Tryz.prog w := by kernel_rfl
  rw [e, Sem.run_bind, mt_at a "Swap" w, run_load, h]
  rfl
theorem mt_push (a : Addr) (w : World) : (method 678 434 (.pointer (some a)) "Push").run Tryz.prog w = .ok (512, .pointer (some a)) w := by kernel_rfl
theorem mt_pop (a : Addr) (w : World) : (method 678 434 (.pointer (some a)) "Pop").run Tryz.prog w = .ok (511, .pointer (some a)) w := by kernel_rfl
theorem mtT_ok : MtOk Tryz.prog mtT := by
  intro t name f
  rw [mt_size]
  unfold mtT
  constructor
  · intro h ad w
    split at h <;> simp only [Option.some.injEq, Prod.mk.injEq, reduceCtorEq, and_false, and_true] at h
    · subst h; exact mt_push ad w
    · subst h; exact mt_pop ad w
  · intro h ad w u hu
    split at h <;> simp only [Option.some.injEq, Prod.mk.injEq, reduceCtorEq, and_false, and_true] at h
    · subst h; exact mt_len ad u w hu
    · subst h; exact mt_less ad u w hu
    · subst h; exact mt_swap ad u w hu
end Go.Proofs
/- strings.Join and bits.Len at this program (laid by the shelf's command, in its plain mode), and strings.Join told in the closed run. -/
namespace Go.Proofs
open Go.Shelf
def Tryz.lays156_ren : Go.Shelf.Ren := ⟨fun | 156 => 258 | 165 => 313 | 166 => 314 | 169 => 315 | 240 => 364 | 241 => 365 | 276 => 411 | 277 => 412 | n => n, fun | 31 => 137 | 9 => 9 | 3 => 3 | 4 => 4 | 0 => 0 | 20 => 20 | 72 => 409 | 76 => 410 | 70 => 407 | 37 => 55 | 75 => 403 | 127 => 461 | 164 => 505 | 5 => 5 | 80 => 412 | n => n, fun | n => n⟩
theorem Tryz.lays156 : Go.Proofs.Lays.n156 Tryz.prog Tryz.lays156_ren := {
  mixed := by kernel_rfl
  f156 := Tryz.func258.trans (congrArg some (by kernel_rfl))
  f165 := Tryz.func313.trans (congrArg some (by kernel_rfl))
  f166 := Tryz.func314.trans (congrArg some (by kernel_rfl))
  f169 := Tryz.func315.trans (congrArg some (by kernel_rfl))
  f240 := Tryz.func364.trans (congrArg some (by kernel_rfl))
  f241 := Tryz.func365.trans (congrArg some (by kernel_rfl))
  f276 := Tryz.func411.trans (congrArg some (by kernel_rfl))
  f277 := Tryz.func412.trans (congrArg some (by kernel_rfl))
  t0 := Tryz.underlying0
  a0 := Tryz.isAgg0
  z0 := Tryz.sizeOf0
  v0 := Tryz.zeroValue0
  t3 := Tryz.underlying3
  a3 := Tryz.isAgg3
  z3 := Tryz.sizeOf3
  v3 := Tryz.zeroValue3
  t4 := Tryz.underlying4
  a4 := Tryz.isAgg4
  z4 := Tryz.sizeOf4
  v4 := Tryz.zeroValue4
  t9 := Tryz.underlying9
  a9 := Tryz.isAgg9
  z9 := Tryz.sizeOf9
  v9 := Tryz.zeroValue9
  t20 := Tryz.underlying20
  a20 := Tryz.isAgg20
  z20 := Tryz.sizeOf20
  v20 := Tryz.zeroValue20
  t31 := Tryz.underlying137
  a31 := Tryz.isAgg137
  z31 := Tryz.sizeOf137
  v31 := Tryz.zeroValue137
  t37 := Tryz.underlying55
  a37 := Tryz.isAgg55
  z37 := Tryz.sizeOf55
  v37 := Tryz.zeroValue55
  t70 := Tryz.underlying407
  a70 := Tryz.isAgg407
  z70 := Tryz.sizeOf407
  v70 := Tryz.zeroValue407
  t72 := Tryz.underlying409
  a72 := Tryz.isAgg409
  z72 := Tryz.sizeOf409
  v72 := Tryz.zeroValue409
  t75 := Tryz.underlying403
  a75 := Tryz.isAgg403
  z75 := Tryz.sizeOf403
  v75 := Tryz.zeroValue403
  t76 := Tryz.underlying410
  a76 := Tryz.isAgg410
  z76 := Tryz.sizeOf410
  v76 := Tryz.zeroValue410
  t127 := Tryz.underlying461
  a127 := Tryz.isAgg461
  z127 := Tryz.sizeOf461
  v127 := Tryz.zeroValue461
  t164 := Tryz.underlying505
  a164 := Tryz.isAgg505
  z164 := Tryz.sizeOf505
  v164 := Tryz.zeroValue505 }
theorem Tryz.Builder_Extra_156 : Builder.Extra Tryz.prog Tryz.lays156_ren := {
  sizeBuilder := by kernel_rfl
  liesBuilder := by kernel_rfl
  t5 := Tryz.underlying5
  a5 := Tryz.isAgg5
  z5 := Tryz.sizeOf5
  v5 := Tryz.zeroValue5
  infoByte := by kernel_rfl
  cellsByte := by kernel_rfl
  sizeByte := by kernel_rfl
  neB5 := by decide }
open Go.RowKit in
/-- No element: the empty string; the world is as it was. (Whatever the slice's address and capacity: a nil slice too.) (LAID: no walk: one application.) -/
theorem Tryz.strings_Join_none (a : Option Addr) (c : Nat) (sep : ByteArray) (w : World) :
    Calls Tryz.prog 258 #[.slice a 0 c, .string sep] w fun e w' => e = .returned (.string ⟨#[]⟩) ∧ w' = w := Any.strings_Join_none Tryz.lays156 Tryz.Builder_Extra_156 a c sep w
open Go.RowKit in
/-- strings.Join: "Join concatenates the elements of its first argument to create a single string. The separator string sep is placed between elements in the resulting string.": HOWEVER MANY ELEMENTS. Below the heap's end the world is as it was. (LAID: no walk: one application.) -/
theorem Tryz.strings_Join (bk o c : Nat) (xs : List ByteArray) (sep : ByteArray) (w : World) (hcells : ∀ (j : Nat) x, xs[j]? = some x → w.cell? ⟨bk, o + j, none⟩ = some (.string x)) (hbk : bk < w.heap.size) (hN : xs.length ≤ 140737488355328) (hcap : xs.length ≤ c) (hlen : (Lib.join (xs.map (·.data.toList)) sep.data.toList).length ≤ 140737488355328) :
    Calls Tryz.prog 258 #[.slice (some ⟨bk, o, none⟩) xs.length c, .string sep] w fun e w' => e = .returned (.string ⟨(Lib.join (xs.map (·.data.toList)) sep.data.toList).toArray⟩) ∧ Below w.heap.size w w' := Any.strings_Join Tryz.lays156 Tryz.Builder_Extra_156 bk o c xs sep w hcells hbk hN hcap hlen
def Tryz.lays125_ren : Go.Shelf.Ren := ⟨fun | 125 => 84 | 128 => 143 | 129 => 144 | n => n, fun | 46 => 57 | 3 => 3 | 51 => 249 | 53 => 31 | 4 => 4 | 5 => 5 | 9 => 9 | n => n, fun | n => n⟩
theorem Tryz.lays125 : Go.Proofs.Lays.n125 Tryz.prog Tryz.lays125_ren := {
  mixed := by kernel_rfl
  f125 := Tryz.func84.trans (congrArg some (by kernel_rfl))
  f128 := Tryz.func143.trans (congrArg some (by kernel_rfl))
  f129 := Tryz.func144.trans (congrArg some (by kernel_rfl))
  t3 := Tryz.underlying3
  a3 := Tryz.isAgg3
  z3 := Tryz.sizeOf3
  v3 := Tryz.zeroValue3
  t4 := Tryz.underlying4
  a4 := Tryz.isAgg4
  z4 := Tryz.sizeOf4
  v4 := Tryz.zeroValue4
  t5 := Tryz.underlying5
  a5 := Tryz.isAgg5
  z5 := Tryz.sizeOf5
  v5 := Tryz.zeroValue5
  t9 := Tryz.underlying9
  a9 := Tryz.isAgg9
  z9 := Tryz.sizeOf9
  v9 := Tryz.zeroValue9
  t46 := Tryz.underlying57
  a46 := Tryz.isAgg57
  z46 := Tryz.sizeOf57
  v46 := Tryz.zeroValue57
  t51 := Tryz.underlying249
  a51 := Tryz.isAgg249
  z51 := Tryz.sizeOf249
  v51 := Tryz.zeroValue249
  t53 := Tryz.underlying31
  a53 := Tryz.isAgg31
  z53 := Tryz.sizeOf31
  v53 := Tryz.zeroValue31 }
/-- bits.Len: "Len returns the minimum number of bits required to represent x; the result is 0 for x == 0.": IT RETURNS 'Lib.bitLen x'; the world is as it was. (A uint has 64 bits in the model.) ITS CALLEE bits.Len64 IS MET BY ITS OWN CONTRACT OFF THE SHELF (lay that first). (LAID: no walk: one application.) -/
theorem Tryz.bits_Len (x : Int) (w : World) (h0 : 0 ≤ x) (h1 : x ≤ 18446744073709551615) :
    Calls Tryz.prog 84 #[.int .u64 x] w fun e w' => e = .returned (.int .i64 (Lib.bitLen x.toNat)) ∧ w' = w := Any.bits_Len Tryz.lays125 x w h0 h1
theorem ok258 : FnG 258 (.sum Go.RE.joinA) := .mk <| @Go.RE.joinA_ok Tryz.prog tyT eqT (Go.RE.chkD tyT eqT) 258 Tryz.call258 Tryz.strings_Join
end Go.Proofs
