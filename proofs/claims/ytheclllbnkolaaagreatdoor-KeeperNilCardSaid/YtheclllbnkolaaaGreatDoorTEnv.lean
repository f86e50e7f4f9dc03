import Derived.Test.YtheclllbnkolaaaGreatDoorProg
import Derived.KernelRfl
import Derived.Test.YtheclllbnkolaaaGreatDoorEng
open Go Go.Eng
namespace Go.Proofs
set_option maxRecDepth 100000
noncomputable def Tryz.ty : T TypeInfo :=
  .node (.node (.node (.node (.node (.node (.node (.node (.node .nil (some Tryz.t255) .nil) (some Tryz.t127) (.node .nil (some Tryz.t383) .nil)) (some Tryz.t63) (.node (.node .nil (some Tryz.t319) .nil) (some Tryz.t191)
  .nil)) (some Tryz.t31) (.node (.node (.node .nil (some Tryz.t287) .nil) (some Tryz.t159) (.node .nil (some Tryz.t415) .nil)) (some Tryz.t95) (.node (.node .nil (some Tryz.t351) .nil) (some Tryz.t223) .nil))) (some
  Tryz.t15) (.node (.node (.node (.node .nil (some Tryz.t271) .nil) (some Tryz.t143) (.node .nil (some Tryz.t399) .nil)) (some Tryz.t79) (.node (.node .nil (some Tryz.t335) .nil) (some Tryz.t207) .nil)) (some Tryz.t47)
  (.node (.node (.node .nil (some Tryz.t303) .nil) (some Tryz.t175) .nil) (some Tryz.t111) (.node (.node .nil (some Tryz.t367) .nil) (some Tryz.t239) .nil)))) (some Tryz.t7) (.node (.node (.node (.node (.node .nil (some
  Tryz.t263) .nil) (some Tryz.t135) (.node .nil (some Tryz.t391) .nil)) (some Tryz.t71) (.node (.node .nil (some Tryz.t327) .nil) (some Tryz.t199) .nil)) (some Tryz.t39) (.node (.node (.node .nil (some Tryz.t295) .nil)
  (some Tryz.t167) (.node .nil (some Tryz.t423) .nil)) (some Tryz.t103) (.node (.node .nil (some Tryz.t359) .nil) (some Tryz.t231) .nil))) (some Tryz.t23) (.node (.node (.node (.node .nil (some Tryz.t279) .nil) (some
  Tryz.t151) (.node .nil (some Tryz.t407) .nil)) (some Tryz.t87) (.node (.node .nil (some Tryz.t343) .nil) (some Tryz.t215) .nil)) (some Tryz.t55) (.node (.node (.node .nil (some Tryz.t311) .nil) (some Tryz.t183) .nil)
  (some Tryz.t119) (.node (.node .nil (some Tryz.t375) .nil) (some Tryz.t247) .nil))))) (some Tryz.t3) (.node (.node (.node (.node (.node (.node .nil (some Tryz.t259) .nil) (some Tryz.t131) (.node .nil (some Tryz.t387)
  .nil)) (some Tryz.t67) (.node (.node .nil (some Tryz.t323) .nil) (some Tryz.t195) .nil)) (some Tryz.t35) (.node (.node (.node .nil (some Tryz.t291) .nil) (some Tryz.t163) (.node .nil (some Tryz.t419) .nil)) (some
  Tryz.t99) (.node (.node .nil (some Tryz.t355) .nil) (some Tryz.t227) .nil))) (some Tryz.t19) (.node (.node (.node (.node .nil (some Tryz.t275) .nil) (some Tryz.t147) (.node .nil (some Tryz.t403) .nil)) (some Tryz.t83)
  (.node (.node .nil (some Tryz.t339) .nil) (some Tryz.t211) .nil)) (some Tryz.t51) (.node (.node (.node .nil (some Tryz.t307) .nil) (some Tryz.t179) .nil) (some Tryz.t115) (.node (.node .nil (some Tryz.t371) .nil) (some
  Tryz.t243) .nil)))) (some Tryz.t11) (.node (.node (.node (.node (.node .nil (some Tryz.t267) .nil) (some Tryz.t139) (.node .nil (some Tryz.t395) .nil)) (some Tryz.t75) (.node (.node .nil (some Tryz.t331) .nil) (some
  Tryz.t203) .nil)) (some Tryz.t43) (.node (.node (.node .nil (some Tryz.t299) .nil) (some Tryz.t171) (.node .nil (some Tryz.t427) .nil)) (some Tryz.t107) (.node (.node .nil (some Tryz.t363) .nil) (some Tryz.t235) .nil)))
  (some Tryz.t27) (.node (.node (.node (.node .nil (some Tryz.t283) .nil) (some Tryz.t155) (.node .nil (some Tryz.t411) .nil)) (some Tryz.t91) (.node (.node .nil (some Tryz.t347) .nil) (some Tryz.t219) .nil)) (some
  Tryz.t59) (.node (.node (.node .nil (some Tryz.t315) .nil) (some Tryz.t187) .nil) (some Tryz.t123) (.node (.node .nil (some Tryz.t379) .nil) (some Tryz.t251) .nil)))))) (some Tryz.t1) (.node (.node (.node (.node (.node
  (.node (.node .nil (some Tryz.t257) .nil) (some Tryz.t129) (.node .nil (some Tryz.t385) .nil)) (some Tryz.t65) (.node (.node .nil (some Tryz.t321) .nil) (some Tryz.t193) .nil)) (some Tryz.t33) (.node (.node (.node .nil
  (some Tryz.t289) .nil) (some Tryz.t161) (.node .nil (some Tryz.t417) .nil)) (some Tryz.t97) (.node (.node .nil (some Tryz.t353) .nil) (some Tryz.t225) .nil))) (some Tryz.t17) (.node (.node (.node (.node .nil (some
  Tryz.t273) .nil) (some Tryz.t145) (.node .nil (some Tryz.t401) .nil)) (some Tryz.t81) (.node (.node .nil (some Tryz.t337) .nil) (some Tryz.t209) .nil)) (some Tryz.t49) (.node (.node (.node .nil (some Tryz.t305) .nil)
  (some Tryz.t177) .nil) (some Tryz.t113) (.node (.node .nil (some Tryz.t369) .nil) (some Tryz.t241) .nil)))) (some Tryz.t9) (.node (.node (.node (.node (.node .nil (some Tryz.t265) .nil) (some Tryz.t137) (.node .nil (some
  Tryz.t393) .nil)) (some Tryz.t73) (.node (.node .nil (some Tryz.t329) .nil) (some Tryz.t201) .nil)) (some Tryz.t41) (.node (.node (.node .nil (some Tryz.t297) .nil) (some Tryz.t169) (.node .nil (some Tryz.t425) .nil))
  (some Tryz.t105) (.node (.node .nil (some Tryz.t361) .nil) (some Tryz.t233) .nil))) (some Tryz.t25) (.node (.node (.node (.node .nil (some Tryz.t281) .nil) (some Tryz.t153) (.node .nil (some Tryz.t409) .nil)) (some
  Tryz.t89) (.node (.node .nil (some Tryz.t345) .nil) (some Tryz.t217) .nil)) (some Tryz.t57) (.node (.node (.node .nil (some Tryz.t313) .nil) (some Tryz.t185) .nil) (some Tryz.t121) (.node (.node .nil (some Tryz.t377)
  .nil) (some Tryz.t249) .nil))))) (some Tryz.t5) (.node (.node (.node (.node (.node (.node .nil (some Tryz.t261) .nil) (some Tryz.t133) (.node .nil (some Tryz.t389) .nil)) (some Tryz.t69) (.node (.node .nil (some
  Tryz.t325) .nil) (some Tryz.t197) .nil)) (some Tryz.t37) (.node (.node (.node .nil (some Tryz.t293) .nil) (some Tryz.t165) (.node .nil (some Tryz.t421) .nil)) (some Tryz.t101) (.node (.node .nil (some Tryz.t357) .nil)
  (some Tryz.t229) .nil))) (some Tryz.t21) (.node (.node (.node (.node .nil (some Tryz.t277) .nil) (some Tryz.t149) (.node .nil (some Tryz.t405) .nil)) (some Tryz.t85) (.node (.node .nil (some Tryz.t341) .nil) (some
  Tryz.t213) .nil)) (some Tryz.t53) (.node (.node (.node .nil (some Tryz.t309) .nil) (some Tryz.t181) .nil) (some Tryz.t117) (.node (.node .nil (some Tryz.t373) .nil) (some Tryz.t245) .nil)))) (some Tryz.t13) (.node (.node
  (.node (.node (.node .nil (some Tryz.t269) .nil) (some Tryz.t141) (.node .nil (some Tryz.t397) .nil)) (some Tryz.t77) (.node (.node .nil (some Tryz.t333) .nil) (some Tryz.t205) .nil)) (some Tryz.t45) (.node (.node (.node
  .nil (some Tryz.t301) .nil) (some Tryz.t173) .nil) (some Tryz.t109) (.node (.node .nil (some Tryz.t365) .nil) (some Tryz.t237) .nil))) (some Tryz.t29) (.node (.node (.node (.node .nil (some Tryz.t285) .nil) (some
  Tryz.t157) (.node .nil (some Tryz.t413) .nil)) (some Tryz.t93) (.node (.node .nil (some Tryz.t349) .nil) (some Tryz.t221) .nil)) (some Tryz.t61) (.node (.node (.node .nil (some Tryz.t317) .nil) (some Tryz.t189) .nil)
  (some Tryz.t125) (.node (.node .nil (some Tryz.t381) .nil) (some Tryz.t253) .nil))))))) (some Tryz.t0) (.node (.node (.node (.node (.node (.node (.node (.node .nil (some Tryz.t256) .nil) (some Tryz.t128) (.node .nil
  (some Tryz.t384) .nil)) (some Tryz.t64) (.node (.node .nil (some Tryz.t320) .nil) (some Tryz.t192) .nil)) (some Tryz.t32) (.node (.node (.node .nil (some Tryz.t288) .nil) (some Tryz.t160) (.node .nil (some Tryz.t416)
  .nil)) (some Tryz.t96) (.node (.node .nil (some Tryz.t352) .nil) (some Tryz.t224) .nil))) (some Tryz.t16) (.node (.node (.node (.node .nil (some Tryz.t272) .nil) (some Tryz.t144) (.node .nil (some Tryz.t400) .nil)) (some
  Tryz.t80) (.node (.node .nil (some Tryz.t336) .nil) (some Tryz.t208) .nil)) (some Tryz.t48) (.node (.node (.node .nil (some Tryz.t304) .nil) (some Tryz.t176) .nil) (some Tryz.t112) (.node (.node .nil (some Tryz.t368)
  .nil) (some Tryz.t240) .nil)))) (some Tryz.t8) (.node (.node (.node (.node (.node .nil (some Tryz.t264) .nil) (some Tryz.t136) (.node .nil (some Tryz.t392) .nil)) (some Tryz.t72) (.node (.node .nil (some Tryz.t328) .nil)
  (some Tryz.t200) .nil)) (some Tryz.t40) (.node (.node (.node .nil (some Tryz.t296) .nil) (some Tryz.t168) (.node .nil (some Tryz.t424) .nil)) (some Tryz.t104) (.node (.node .nil (some Tryz.t360) .nil) (some Tryz.t232)
  .nil))) (some Tryz.t24) (.node (.node (.node (.node .nil (some Tryz.t280) .nil) (some Tryz.t152) (.node .nil (some Tryz.t408) .nil)) (some Tryz.t88) (.node (.node .nil (some Tryz.t344) .nil) (some Tryz.t216) .nil)) (some
  Tryz.t56) (.node (.node (.node .nil (some Tryz.t312) .nil) (some Tryz.t184) .nil) (some Tryz.t120) (.node (.node .nil (some Tryz.t376) .nil) (some Tryz.t248) .nil))))) (some Tryz.t4) (.node (.node (.node (.node (.node
  (.node .nil (some Tryz.t260) .nil) (some Tryz.t132) (.node .nil (some Tryz.t388) .nil)) (some Tryz.t68) (.node (.node .nil (some Tryz.t324) .nil) (some Tryz.t196) .nil)) (some Tryz.t36) (.node (.node (.node .nil (some
  Tryz.t292) .nil) (some Tryz.t164) (.node .nil (some Tryz.t420) .nil)) (some Tryz.t100) (.node (.node .nil (some Tryz.t356) .nil) (some Tryz.t228) .nil))) (some Tryz.t20) (.node (.node (.node (.node .nil (some Tryz.t276)
  .nil) (some Tryz.t148) (.node .nil (some Tryz.t404) .nil)) (some Tryz.t84) (.node (.node .nil (some Tryz.t340) .nil) (some Tryz.t212) .nil)) (some Tryz.t52) (.node (.node (.node .nil (some Tryz.t308) .nil) (some
  Tryz.t180) .nil) (some Tryz.t116) (.node (.node .nil (some Tryz.t372) .nil) (some Tryz.t244) .nil)))) (some Tryz.t12) (.node (.node (.node (.node (.node .nil (some Tryz.t268) .nil) (some Tryz.t140) (.node .nil (some
  Tryz.t396) .nil)) (some Tryz.t76) (.node (.node .nil (some Tryz.t332) .nil) (some Tryz.t204) .nil)) (some Tryz.t44) (.node (.node (.node .nil (some Tryz.t300) .nil) (some Tryz.t172) .nil) (some Tryz.t108) (.node (.node
  .nil (some Tryz.t364) .nil) (some Tryz.t236) .nil))) (some Tryz.t28) (.node (.node (.node (.node .nil (some Tryz.t284) .nil) (some Tryz.t156) (.node .nil (some Tryz.t412) .nil)) (some Tryz.t92) (.node (.node .nil (some
  Tryz.t348) .nil) (some Tryz.t220) .nil)) (some Tryz.t60) (.node (.node (.node .nil (some Tryz.t316) .nil) (some Tryz.t188) .nil) (some Tryz.t124) (.node (.node .nil (some Tryz.t380) .nil) (some Tryz.t252) .nil))))))
  (some Tryz.t2) (.node (.node (.node (.node (.node (.node (.node .nil (some Tryz.t258) .nil) (some Tryz.t130) (.node .nil (some Tryz.t386) .nil)) (some Tryz.t66) (.node (.node .nil (some Tryz.t322) .nil) (some Tryz.t194)
  .nil)) (some Tryz.t34) (.node (.node (.node .nil (some Tryz.t290) .nil) (some Tryz.t162) (.node .nil (some Tryz.t418) .nil)) (some Tryz.t98) (.node (.node .nil (some Tryz.t354) .nil) (some Tryz.t226) .nil))) (some
  Tryz.t18) (.node (.node (.node (.node .nil (some Tryz.t274) .nil) (some Tryz.t146) (.node .nil (some Tryz.t402) .nil)) (some Tryz.t82) (.node (.node .nil (some Tryz.t338) .nil) (some Tryz.t210) .nil)) (some Tryz.t50)
  (.node (.node (.node .nil (some Tryz.t306) .nil) (some Tryz.t178) .nil) (some Tryz.t114) (.node (.node .nil (some Tryz.t370) .nil) (some Tryz.t242) .nil)))) (some Tryz.t10) (.node (.node (.node (.node (.node .nil (some
  Tryz.t266) .nil) (some Tryz.t138) (.node .nil (some Tryz.t394) .nil)) (some Tryz.t74) (.node (.node .nil (some Tryz.t330) .nil) (some Tryz.t202) .nil)) (some Tryz.t42) (.node (.node (.node .nil (some Tryz.t298) .nil)
  (some Tryz.t170) (.node .nil (some Tryz.t426) .nil)) (some Tryz.t106) (.node (.node .nil (some Tryz.t362) .nil) (some Tryz.t234) .nil))) (some Tryz.t26) (.node (.node (.node (.node .nil (some Tryz.t282) .nil) (some
  Tryz.t154) (.node .nil (some Tryz.t410) .nil)) (some Tryz.t90) (.node (.node .nil (some Tryz.t346) .nil) (some Tryz.t218) .nil)) (some Tryz.t58) (.node (.node (.node .nil (some Tryz.t314) .nil) (some Tryz.t186) .nil)
  (some Tryz.t122) (.node (.node .nil (some Tryz.t378) .nil) (some Tryz.t250) .nil))))) (some Tryz.t6) (.node (.node (.node (.node (.node (.node .nil (some Tryz.t262) .nil) (some Tryz.t134) (.node .nil (some Tryz.t390)
  .nil)) (some Tryz.t70) (.node (.node .nil (some Tryz.t326) .nil) (some Tryz.t198) .nil)) (some Tryz.t38) (.node (.node (.node .nil (some Tryz.t294) .nil) (some Tryz.t166) (.node .nil (some Tryz.t422) .nil)) (some
  Tryz.t102) (.node (.node .nil (some Tryz.t358) .nil) (some Tryz.t230) .nil))) (some Tryz.t22) (.node (.node (.node (.node .nil (some Tryz.t278) .nil) (some Tryz.t150) (.node .nil (some Tryz.t406) .nil)) (some Tryz.t86)
  (.node (.node .nil (some Tryz.t342) .nil) (some Tryz.t214) .nil)) (some Tryz.t54) (.node (.node (.node .nil (some Tryz.t310) .nil) (some Tryz.t182) .nil) (some Tryz.t118) (.node (.node .nil (some Tryz.t374) .nil) (some
  Tryz.t246) .nil)))) (some Tryz.t14) (.node (.node (.node (.node (.node .nil (some Tryz.t270) .nil) (some Tryz.t142) (.node .nil (some Tryz.t398) .nil)) (some Tryz.t78) (.node (.node .nil (some Tryz.t334) .nil) (some
  Tryz.t206) .nil)) (some Tryz.t46) (.node (.node (.node .nil (some Tryz.t302) .nil) (some Tryz.t174) .nil) (some Tryz.t110) (.node (.node .nil (some Tryz.t366) .nil) (some Tryz.t238) .nil))) (some Tryz.t30) (.node (.node
  (.node (.node .nil (some Tryz.t286) .nil) (some Tryz.t158) (.node .nil (some Tryz.t414) .nil)) (some Tryz.t94) (.node (.node .nil (some Tryz.t350) .nil) (some Tryz.t222) .nil)) (some Tryz.t62) (.node (.node (.node .nil
  (some Tryz.t318) .nil) (some Tryz.t190) .nil) (some Tryz.t126) (.node (.node .nil (some Tryz.t382) .nil) (some Tryz.t254) .nil)))))))
noncomputable def Tryz.fn : T Func :=
  .node (.node (.node (.node (.node (.node (.node (.node (.node .nil (some Tryz.f255) .nil) (some Tryz.f127) .nil) (some Tryz.f63) (.node (.node .nil (some Tryz.f319) .nil) (some Tryz.f191) .nil)) (some Tryz.f31) (.node
  (.node (.node .nil (some Tryz.f287) .nil) (some Tryz.f159) .nil) (some Tryz.f95) (.node (.node .nil (some Tryz.f351) .nil) (some Tryz.f223) .nil))) (some Tryz.f15) (.node (.node (.node (.node .nil (some Tryz.f271) .nil)
  (some Tryz.f143) .nil) (some Tryz.f79) (.node (.node .nil (some Tryz.f335) .nil) (some Tryz.f207) .nil)) (some Tryz.f47) (.node (.node (.node .nil (some Tryz.f303) .nil) (some Tryz.f175) .nil) (some Tryz.f111) (.node
  (.node .nil (some Tryz.f367) .nil) (some Tryz.f239) .nil)))) (some Tryz.f7) (.node (.node (.node (.node (.node .nil (some Tryz.f263) .nil) (some Tryz.f135) .nil) (some Tryz.f71) (.node (.node .nil (some Tryz.f327) .nil)
  (some Tryz.f199) .nil)) (some Tryz.f39) (.node (.node (.node .nil (some Tryz.f295) .nil) (some Tryz.f167) .nil) (some Tryz.f103) (.node (.node .nil (some Tryz.f359) .nil) (some Tryz.f231) .nil))) (some Tryz.f23) (.node
  (.node (.node (.node .nil (some Tryz.f279) .nil) (some Tryz.f151) .nil) (some Tryz.f87) (.node (.node .nil (some Tryz.f343) .nil) (some Tryz.f215) .nil)) (some Tryz.f55) (.node (.node (.node .nil (some Tryz.f311) .nil)
  (some Tryz.f183) .nil) (some Tryz.f119) (.node .nil (some Tryz.f247) .nil))))) (some Tryz.f3) (.node (.node (.node (.node (.node (.node .nil (some Tryz.f259) .nil) (some Tryz.f131) .nil) (some Tryz.f67) (.node (.node
  .nil (some Tryz.f323) .nil) (some Tryz.f195) .nil)) (some Tryz.f35) (.node (.node (.node .nil (some Tryz.f291) .nil) (some Tryz.f163) .nil) (some Tryz.f99) (.node (.node .nil (some Tryz.f355) .nil) (some Tryz.f227)
  .nil))) (some Tryz.f19) (.node (.node (.node (.node .nil (some Tryz.f275) .nil) (some Tryz.f147) .nil) (some Tryz.f83) (.node (.node .nil (some Tryz.f339) .nil) (some Tryz.f211) .nil)) (some Tryz.f51) (.node (.node
  (.node .nil (some Tryz.f307) .nil) (some Tryz.f179) .nil) (some Tryz.f115) (.node .nil (some Tryz.f243) .nil)))) (some Tryz.f11) (.node (.node (.node (.node (.node .nil (some Tryz.f267) .nil) (some Tryz.f139) .nil) (some
  Tryz.f75) (.node (.node .nil (some Tryz.f331) .nil) (some Tryz.f203) .nil)) (some Tryz.f43) (.node (.node (.node .nil (some Tryz.f299) .nil) (some Tryz.f171) .nil) (some Tryz.f107) (.node (.node .nil (some Tryz.f363)
  .nil) (some Tryz.f235) .nil))) (some Tryz.f27) (.node (.node (.node (.node .nil (some Tryz.f283) .nil) (some Tryz.f155) .nil) (some Tryz.f91) (.node (.node .nil (some Tryz.f347) .nil) (some Tryz.f219) .nil)) (some
  Tryz.f59) (.node (.node (.node .nil (some Tryz.f315) .nil) (some Tryz.f187) .nil) (some Tryz.f123) (.node .nil (some Tryz.f251) .nil)))))) (some Tryz.f1) (.node (.node (.node (.node (.node (.node (.node .nil (some
  Tryz.f257) .nil) (some Tryz.f129) .nil) (some Tryz.f65) (.node (.node .nil (some Tryz.f321) .nil) (some Tryz.f193) .nil)) (some Tryz.f33) (.node (.node (.node .nil (some Tryz.f289) .nil) (some Tryz.f161) .nil) (some
  Tryz.f97) (.node (.node .nil (some Tryz.f353) .nil) (some Tryz.f225) .nil))) (some Tryz.f17) (.node (.node (.node (.node .nil (some Tryz.f273) .nil) (some Tryz.f145) .nil) (some Tryz.f81) (.node (.node .nil (some
  Tryz.f337) .nil) (some Tryz.f209) .nil)) (some Tryz.f49) (.node (.node (.node .nil (some Tryz.f305) .nil) (some Tryz.f177) .nil) (some Tryz.f113) (.node .nil (some Tryz.f241) .nil)))) (some Tryz.f9) (.node (.node (.node
  (.node (.node .nil (some Tryz.f265) .nil) (some Tryz.f137) .nil) (some Tryz.f73) (.node (.node .nil (some Tryz.f329) .nil) (some Tryz.f201) .nil)) (some Tryz.f41) (.node (.node (.node .nil (some Tryz.f297) .nil) (some
  Tryz.f169) .nil) (some Tryz.f105) (.node (.node .nil (some Tryz.f361) .nil) (some Tryz.f233) .nil))) (some Tryz.f25) (.node (.node (.node (.node .nil (some Tryz.f281) .nil) (some Tryz.f153) .nil) (some Tryz.f89) (.node
  (.node .nil (some Tryz.f345) .nil) (some Tryz.f217) .nil)) (some Tryz.f57) (.node (.node (.node .nil (some Tryz.f313) .nil) (some Tryz.f185) .nil) (some Tryz.f121) (.node .nil (some Tryz.f249) .nil))))) (some Tryz.f5)
  (.node (.node (.node (.node (.node (.node .nil (some Tryz.f261) .nil) (some Tryz.f133) .nil) (some Tryz.f69) (.node (.node .nil (some Tryz.f325) .nil) (some Tryz.f197) .nil)) (some Tryz.f37) (.node (.node (.node .nil
  (some Tryz.f293) .nil) (some Tryz.f165) .nil) (some Tryz.f101) (.node (.node .nil (some Tryz.f357) .nil) (some Tryz.f229) .nil))) (some Tryz.f21) (.node (.node (.node (.node .nil (some Tryz.f277) .nil) (some Tryz.f149)
  .nil) (some Tryz.f85) (.node (.node .nil (some Tryz.f341) .nil) (some Tryz.f213) .nil)) (some Tryz.f53) (.node (.node (.node .nil (some Tryz.f309) .nil) (some Tryz.f181) .nil) (some Tryz.f117) (.node .nil (some
  Tryz.f245) .nil)))) (some Tryz.f13) (.node (.node (.node (.node (.node .nil (some Tryz.f269) .nil) (some Tryz.f141) .nil) (some Tryz.f77) (.node (.node .nil (some Tryz.f333) .nil) (some Tryz.f205) .nil)) (some Tryz.f45)
  (.node (.node (.node .nil (some Tryz.f301) .nil) (some Tryz.f173) .nil) (some Tryz.f109) (.node (.node .nil (some Tryz.f365) .nil) (some Tryz.f237) .nil))) (some Tryz.f29) (.node (.node (.node (.node .nil (some
  Tryz.f285) .nil) (some Tryz.f157) .nil) (some Tryz.f93) (.node (.node .nil (some Tryz.f349) .nil) (some Tryz.f221) .nil)) (some Tryz.f61) (.node (.node (.node .nil (some Tryz.f317) .nil) (some Tryz.f189) .nil) (some
  Tryz.f125) (.node .nil (some Tryz.f253) .nil))))))) (some Tryz.f0) (.node (.node (.node (.node (.node (.node (.node (.node .nil (some Tryz.f256) .nil) (some Tryz.f128) .nil) (some Tryz.f64) (.node (.node .nil (some
  Tryz.f320) .nil) (some Tryz.f192) .nil)) (some Tryz.f32) (.node (.node (.node .nil (some Tryz.f288) .nil) (some Tryz.f160) .nil) (some Tryz.f96) (.node (.node .nil (some Tryz.f352) .nil) (some Tryz.f224) .nil))) (some
  Tryz.f16) (.node (.node (.node (.node .nil (some Tryz.f272) .nil) (some Tryz.f144) .nil) (some Tryz.f80) (.node (.node .nil (some Tryz.f336) .nil) (some Tryz.f208) .nil)) (some Tryz.f48) (.node (.node (.node .nil (some
  Tryz.f304) .nil) (some Tryz.f176) .nil) (some Tryz.f112) (.node .nil (some Tryz.f240) .nil)))) (some Tryz.f8) (.node (.node (.node (.node (.node .nil (some Tryz.f264) .nil) (some Tryz.f136) .nil) (some Tryz.f72) (.node
  (.node .nil (some Tryz.f328) .nil) (some Tryz.f200) .nil)) (some Tryz.f40) (.node (.node (.node .nil (some Tryz.f296) .nil) (some Tryz.f168) .nil) (some Tryz.f104) (.node (.node .nil (some Tryz.f360) .nil) (some
  Tryz.f232) .nil))) (some Tryz.f24) (.node (.node (.node (.node .nil (some Tryz.f280) .nil) (some Tryz.f152) .nil) (some Tryz.f88) (.node (.node .nil (some Tryz.f344) .nil) (some Tryz.f216) .nil)) (some Tryz.f56) (.node
  (.node (.node .nil (some Tryz.f312) .nil) (some Tryz.f184) .nil) (some Tryz.f120) (.node .nil (some Tryz.f248) .nil))))) (some Tryz.f4) (.node (.node (.node (.node (.node (.node .nil (some Tryz.f260) .nil) (some
  Tryz.f132) .nil) (some Tryz.f68) (.node (.node .nil (some Tryz.f324) .nil) (some Tryz.f196) .nil)) (some Tryz.f36) (.node (.node (.node .nil (some Tryz.f292) .nil) (some Tryz.f164) .nil) (some Tryz.f100) (.node (.node
  .nil (some Tryz.f356) .nil) (some Tryz.f228) .nil))) (some Tryz.f20) (.node (.node (.node (.node .nil (some Tryz.f276) .nil) (some Tryz.f148) .nil) (some Tryz.f84) (.node (.node .nil (some Tryz.f340) .nil) (some
  Tryz.f212) .nil)) (some Tryz.f52) (.node (.node (.node .nil (some Tryz.f308) .nil) (some Tryz.f180) .nil) (some Tryz.f116) (.node .nil (some Tryz.f244) .nil)))) (some Tryz.f12) (.node (.node (.node (.node (.node .nil
  (some Tryz.f268) .nil) (some Tryz.f140) .nil) (some Tryz.f76) (.node (.node .nil (some Tryz.f332) .nil) (some Tryz.f204) .nil)) (some Tryz.f44) (.node (.node (.node .nil (some Tryz.f300) .nil) (some Tryz.f172) .nil)
  (some Tryz.f108) (.node (.node .nil (some Tryz.f364) .nil) (some Tryz.f236) .nil))) (some Tryz.f28) (.node (.node (.node (.node .nil (some Tryz.f284) .nil) (some Tryz.f156) .nil) (some Tryz.f92) (.node (.node .nil (some
  Tryz.f348) .nil) (some Tryz.f220) .nil)) (some Tryz.f60) (.node (.node (.node .nil (some Tryz.f316) .nil) (some Tryz.f188) .nil) (some Tryz.f124) (.node .nil (some Tryz.f252) .nil)))))) (some Tryz.f2) (.node (.node
  (.node (.node (.node (.node (.node .nil (some Tryz.f258) .nil) (some Tryz.f130) .nil) (some Tryz.f66) (.node (.node .nil (some Tryz.f322) .nil) (some Tryz.f194) .nil)) (some Tryz.f34) (.node (.node (.node .nil (some
  Tryz.f290) .nil) (some Tryz.f162) .nil) (some Tryz.f98) (.node (.node .nil (some Tryz.f354) .nil) (some Tryz.f226) .nil))) (some Tryz.f18) (.node (.node (.node (.node .nil (some Tryz.f274) .nil) (some Tryz.f146) .nil)
  (some Tryz.f82) (.node (.node .nil (some Tryz.f338) .nil) (some Tryz.f210) .nil)) (some Tryz.f50) (.node (.node (.node .nil (some Tryz.f306) .nil) (some Tryz.f178) .nil) (some Tryz.f114) (.node .nil (some Tryz.f242)
  .nil)))) (some Tryz.f10) (.node (.node (.node (.node (.node .nil (some Tryz.f266) .nil) (some Tryz.f138) .nil) (some Tryz.f74) (.node (.node .nil (some Tryz.f330) .nil) (some Tryz.f202) .nil)) (some Tryz.f42) (.node
  (.node (.node .nil (some Tryz.f298) .nil) (some Tryz.f170) .nil) (some Tryz.f106) (.node (.node .nil (some Tryz.f362) .nil) (some Tryz.f234) .nil))) (some Tryz.f26) (.node (.node (.node (.node .nil (some Tryz.f282) .nil)
  (some Tryz.f154) .nil) (some Tryz.f90) (.node (.node .nil (some Tryz.f346) .nil) (some Tryz.f218) .nil)) (some Tryz.f58) (.node (.node (.node .nil (some Tryz.f314) .nil) (some Tryz.f186) .nil) (some Tryz.f122) (.node
  .nil (some Tryz.f250) .nil))))) (some Tryz.f6) (.node (.node (.node (.node (.node (.node .nil (some Tryz.f262) .nil) (some Tryz.f134) .nil) (some Tryz.f70) (.node (.node .nil (some Tryz.f326) .nil) (some Tryz.f198)
  .nil)) (some Tryz.f38) (.node (.node (.node .nil (some Tryz.f294) .nil) (some Tryz.f166) .nil) (some Tryz.f102) (.node (.node .nil (some Tryz.f358) .nil) (some Tryz.f230) .nil))) (some Tryz.f22) (.node (.node (.node
  (.node .nil (some Tryz.f278) .nil) (some Tryz.f150) .nil) (some Tryz.f86) (.node (.node .nil (some Tryz.f342) .nil) (some Tryz.f214) .nil)) (some Tryz.f54) (.node (.node (.node .nil (some Tryz.f310) .nil) (some
  Tryz.f182) .nil) (some Tryz.f118) (.node .nil (some Tryz.f246) .nil)))) (some Tryz.f14) (.node (.node (.node (.node (.node .nil (some Tryz.f270) .nil) (some Tryz.f142) .nil) (some Tryz.f78) (.node (.node .nil (some
  Tryz.f334) .nil) (some Tryz.f206) .nil)) (some Tryz.f46) (.node (.node (.node .nil (some Tryz.f302) .nil) (some Tryz.f174) .nil) (some Tryz.f110) (.node (.node .nil (some Tryz.f366) .nil) (some Tryz.f238) .nil))) (some
  Tryz.f30) (.node (.node (.node (.node .nil (some Tryz.f286) .nil) (some Tryz.f158) .nil) (some Tryz.f94) (.node (.node .nil (some Tryz.f350) .nil) (some Tryz.f222) .nil)) (some Tryz.f62) (.node (.node (.node .nil (some
  Tryz.f318) .nil) (some Tryz.f190) .nil) (some Tryz.f126) (.node .nil (some Tryz.f254) .nil)))))))
noncomputable def Tryz.env : Env := ⟨Tryz.prog, Tryz.ty, Tryz.fn⟩
def obs : Option (List (AV × Hp)) → Option (List Bool)
  | none => none
  | some l => some (l.map fun x => match x.1 with | .s (.bool true) => true | _ => false)
set_option maxRecDepth 100000
theorem awake11 : obs (callA Tryz.env 100000 100 (.func 16 []) ⟨.nil, 0⟩) = some [true, true] := by kernel_rfl
end Go.Proofs
