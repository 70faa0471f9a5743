/-
  Parts of the proof: Ok25, Pa1, Pl2, Pl3, Pl5, Th1, Pl6, Pl8, Pl9, Pl10, Pl12, ThT, Pa2, Pa3, Pa4, Pa5, Pa6, Pa7, Pa8, Pa9, Pa10, Pa11, Pa12, Pa13, Pa14, Pa15, Pa16, Pa17, Pa18, Pa19, Pa20, Pa21, Pa22, Pa23, Pa24, Pa25, Pa26, Pa27, Pa28, Pa29, Pm1, Pm2, G25, Pm3: the framework (Fw), pure forms (Dn), plain laws (Pl, Th), calls of functions (Ok).
-/
import Derived.Test.YtnndjinceoekdaaGreatDoorProg
import Derived.KernelRfl
import Derived.Test.YtnndjinceoekdaaGreatDoorRows
import Derived.ProofKit
import Derived.Lib.LaidTab
import Derived.LaidMore
import Derived.Test.YtnndjinceoekdaaGreatDoorB800b0d02

set_option linter.all false
set_option maxHeartbeats 1000000
open _root_ renaming Int->Z,Nat->X,Bool->bA,Unit->bt,List->bm,Option->bv,Array->bU,rfl->bn,False->b6,decide_eq_true_eq->aip,decide_eq_true->ah3,decide_eq_false->aiy,Decidable->aiE,and_true->b9,decide_eq_decide->cx,beq_self_eq_true->aix,cond_true->bG,if_pos->ca,cond_false->bP,if_neg->ck
open Option renaming some->Y,bind->bB,none->bo,bind_some->bN
open Go.Proofs.Tryz renaming prog->cp,func266->akI
open Nat renaming ble->b2,min_eq_left->aji,lt_or_ge->cl,le_trans->cz,and_le_left->amE,or_lt_two_pow->alJ,and_two_pow_sub_one_eq_mod->alK,add_comm->ajQ,div_add_mod->aky,two_pow_pos->aj2,pow_lt_pow_right->amG,mul_eq_zero->amH,div_lt_iff_lt_mul->akx,le_div_iff_mul_le->alL,div_div_eq_div_mul->amI,mod_lt->aju,mul_div_cancel->alM,mul_pos->amK,mul_le_mul_left->alN,pow_mul->alO,le_refl->cj,eq_of_testBit_eq->amM,testBit_and->amN,testBit_two_pow->alB,add_sub_cancel->amU,blt->cb,zero_add->amW,div_eq_of_lt->alU,div_le_self->alV,mod_le->alW
open Bool renaming true->bp,false->bq,true_and->ajX
open Go renaming Exit->b5,IntKind->cu,World->bD
open Go.IntKind renaming u32->cc,i64->bK,u64->bC,wrap->ajF,signed->amD,u8->alH
open List renaming range->bI,replicate->bJ,length_take->aib,take_add_one->ct,getElem?_eq_getElem->bS,take_append_drop->ajw,length_eq_zero_iff->alE,pairwise_iff_getElem->ah1,getD->aiJ,getElem_mem->b7,mem_singleton->ah4,length_filter_le->air,length_map->cm,range_succ->ais,mem_iff_getElem->aiS,take_length->cA,getElem?_eq_none->ajE,getElem?_take->akm,take_of_length_le->ch,getLast?_eq_getElem?->amL,getElem_set_self->amP,drop->alP,length_drop->alu,set_append_right->akO,length_set->aj5,nil_append->alQ,drop_drop->ajM,append_assoc->aiB,drop_eq_nil_of_le->alR
open Int renaming le_refl->ajH,lt_trans->amC,toNat_natCast->aiA,fdiv_eq_ediv_of_nonneg->amF,lt_or_le->ai0,mul_nonneg->akJ,le_of_lt->ail,le_total->amJ,add_comm->akK,add_zero->akL,emod_add_mul_ediv->ajj,zero_add->ajk,mul_lt_mul_of_pos_right->akM,emod_emod_of_dvd->amO,mul_emod_left->akN,mul_emod_mul_of_pos->amQ,mul_zero->aj3,one_mul->aj4,mul_comm->ai1,ediv_ediv_of_nonneg->amR,ediv_nonneg->aiT,le_ediv_iff_mul_le->akP,mul_add->amS,mul_one->amT,ediv_lt_of_lt_mul->amV,emod_lt_of_pos->aj6,emod_nonneg->aj7,mul_le_mul_of_nonneg_left->akQ,lt_of_mul_lt_mul_left->aj8,mul_neg_of_pos_of_neg->amX,mul_ediv_cancel_left->amY,ediv_le_self->aj9,emod_neg->amZ,ediv_neg->am0,pow_add->am1,natAbs_neg->aka,mul_ediv_cancel->alS,zero_sub->alT,eq_ofNat_of_zero_le->cB,natAbs_mul->am2,natAbs_add_le->am3,natCast_ediv->akR,natAbs_natCast->akS,natCast_emod->am4
open Option.some renaming injEq->ajd
open Go.jf.ae renaming eq_iff->bQ,fb->bZ,e6->bX,af->bu,kB->ah5,loop->aik,mono->cy
open Decidable renaming decide->br
open Go.jf renaming wrap64->cr
open List.Pairwise renaming filter->anC
open BitVec renaming ofInt->cg
open Go.World renaming cell?->ai9
open Go.jf.ah renaming size->aiq
noncomputable section
namespace Go.jf
variable{a d p:Z}{b e l:X}{c f n:ahZ}{g j:bA}{h o:Type}{i k:ahT}{m:Prop}{q:ew}{r:(ep×Z×Z×bf×bt)->Prop}{s:(ep×Z×bf×bt)->Prop}
section
open Go.Proofs
open Tryz
abbrev fW:ah:=(.int .u32)
abbrev fK:ah:=(.a2 .bg fW)
abbrev cZ:ah:=(.st (.pr .bool (.pr fK .nil)))
abbrev aE:ah:=(.int .i64)
abbrev cH:ah:=(.st (.pr .bool (.pr cZ (.pr aE .nil))))
abbrev gU:ah:=(.osl aE)
abbrev c0:ah:=(.int .u64)
abbrev yw:ah:=(.st (.pr aE (.pr aE (.pr gU (.pr gU (.pr (.osl c0) .nil))))))
abbrev gZ:ah:=(.a2 .bg aE)
abbrev eU:ah:=(.a2 .df aE)
abbrev kt:ah:=(.a2 .df c0)
abbrev jA:ah:=(.st (.pr aE (.pr aE (.pr eU (.pr eU (.pr kt .nil))))))
abbrev r9:ah:=(.st (.pr eU (.pr eU (.pr kt (.pr eU (.pr eU (.pr kt (.pr aE .nil))))))))
abbrev n4:ah:=(.st (.pr (.a2 .bg gZ) .nil))
abbrev wd:ah:=(.st (.pr aE (.pr n4 (.pr (.a2 .bg (.fx .bg cH)) .nil))))
abbrev ml:ah:=(.st (.pr gZ (.pr (.a2 .bg c0) .nil)))
abbrev Bt:ah:=(.st (.pr (.ptr .bg wd) (.pr gU (.pr gU (.pr (.osl c0) (.pr (.osl ml) (.pr aE .nil)))))))
abbrev yy:ah:=(.st (.pr gZ (.pr gZ (.pr (.a2 .bg c0) (.pr gZ (.pr gZ (.pr (.a2 .bg c0) (.pr aE .nil))))))))
abbrev qJ:ah:=(.osl cH)
abbrev F7:ah:=(.osl qJ)
abbrev qG:ah:=(.pr F7 .nil)
abbrev KP:ah:=(.st (.pr aE (.pr aE (.pr qJ .nil))))
abbrev FZ:ah:=(.st (.pr gU (.pr gU (.pr (.osl c0) (.pr gU (.pr gU (.pr (.osl c0) (.pr aE .nil))))))))
abbrev n3:ah:=(.st (.pr aE (.pr aE (.pr c0 .nil))))
abbrev yx:ah:=(.osl .bool)
abbrev r7:ah:=(.optr (.st (.pr gU (.pr aE (.pr yx qG)))))
abbrev oR:ah:=(.st (.pr aE (.pr aE (.pr eU (.pr aE .nil)))))
abbrev ks:ah:=(.ptr .df (.st (.pr eU (.pr aE (.pr (.a2 .df .bool) (.pr (.a2 .df (.a2 .df cH)) .nil))))))
abbrev F1:ah:=(.st (.pr gU (.pr (.osl c0) (.pr gZ (.pr (.osl (.osl c0)) .nil)))))
abbrev F2:ah:=(.st (.pr gU (.pr gZ (.pr (.a2 .bg c0) (.pr gU (.pr gU (.pr (.osl c0) (.pr aE .nil))))))))
abbrev wa:ah:=(.st (.pr aE (.pr aE (.pr gZ (.pr gZ (.pr (.a2 .bg c0) .nil))))))
abbrev Sd:ah:=(.optr (.st (.pr gZ (.pr aE qG))))
abbrev lw:ah:=(.st (.pr (.a2 .df eU) .nil))
abbrev r8:ah:=(.st (.pr cZ (.pr cZ .nil)))
abbrev Bo:ah:=(.st (.pr aE (.pr aE (.pr aE .nil))))
abbrev KQ:ah:=(.osl (.st (.pr aE (.pr aE (.pr gU (.pr aE .nil))))))
abbrev Se:ah:=(.optr (.st (.pr gU (.pr aE qG))))
abbrev qH:ah:=(.st (.pr eU (.pr aE (.pr (.a2 .df (.a2 .df cH)) .nil))))
abbrev wb:ah:=(.osl yx)
abbrev wc:ah:=(.st (.pr gU (.pr (.osl c0) .nil)))
abbrev nh:ah:=(.a2 .bg cH)
abbrev lx:ah:=(.osl fW)
abbrev F3:ah:=(.st (.pr gZ (.pr (.a2 .bg c0) (.pr gZ (.pr (.a2 .bg (.a2 .bg c0)) .nil)))))
abbrev Sf:ah:=(.optr cH)
abbrev qI:ah:=(.st (.pr .bool (.pr cZ (.pr aE (.pr .bool .nil)))))
abbrev F4:ah:=(.st (.pr aE (.pr aE (.pr nh .nil))))
abbrev Bp:ah:=(.ptr .bg (.st (.pr gZ (.pr aE (.pr (.a2 .bg .bool) (.pr (.a2 .bg nh) .nil))))))
abbrev Sg:ah:=(.optr yw)
abbrev Sh:ah:=(.ptr .bg cZ)
abbrev Bq:ah:=(.st (.pr (.osl gZ) .nil))
abbrev Si:ah:=(.optr cZ)
abbrev KR:ah:=(.a2 .bg (.st (.pr aE (.pr aE (.pr gZ (.pr aE .nil))))))
abbrev Sj:ah:=(.ptr .bg cH)
abbrev pH:ah:=(.osl n3)
abbrev Sk:ah:=(.optr (.st (.pr aE (.pr n4 (.pr (.osl (.mp cH)) .nil)))))
abbrev F5:ah:=(.st (.pr gZ (.pr aE (.pr (.a2 .bg nh) .nil))))
abbrev Sl:ah:=(.st (.pr aE (.pr aE (.pr (.a2 .df cH) .nil))))
abbrev Sm:ah:=(.optr KP)
abbrev F6:ah:=(.optr (.st (.pr wb (.pr yx .nil))))
abbrev Sn:ah:=(.osl (.osl r8))
abbrev Sp:ah:=(.ptr .bg jA)
abbrev Br:ah:=(.st (.pr eU (.pr kt (.pr eU (.pr (.a2 .df kt) .nil)))))
abbrev ku:ah:=(.a2 .df oR)
abbrev Sq:ah:=(.optr FZ)
abbrev Sr:ah:=(.optr Bo)
abbrev Bs:ah:=(.ptr .bg lw)
abbrev Ss:ah:=(.optr F1)
abbrev St:ah:=(.ptr .bg r9)
abbrev KS:ah:=(.osl nh)
def tt:bm (X×ah):=[(3,aE),(4,.bool),(5,(.int .u8)),(9,.str),(22,(.a2 .bg c0)),(23,gZ),(24,(.a2 .bg c0)),(26,wa),(27,KR),(31,yy),(41,c0),(42,c0),(46,Bo),(50,nh),(52,F4),(55,(.a2 .bg nh)),(56,fK),(58,cZ),(60,cH),(63,(.a2 .bg (.a2 .bg cZ))),(85,(.a2 .bg gZ)),(87,n4),(88,(.a2 .bg (.fx .bg cH))),(90,wd),(93,(.st (.pr aE (.pr aE (.pr gZ (.pr aE .nil)))))),(96,(.a2 .bg ml)),(98,(.st (.pr (.ptr .bg wd) (.pr gZ (.pr gZ (.pr (.a2 .bg c0) (.pr (.a2 .bg ml) (.pr aE .nil)))))))),(99,(.a2 .bg (.a2 .bg Bp))),(100,Bp),(103,(.a2 .bg Bp)),(107,(.a2 .bg F5)),(108,(.a2 .bg F3)),(110,F5),(114,(.a2 .bg (.a2 .bg c0))),(116,F3),(127,(.a2 .bg (.a2 .bg .bool))),(129,c0),(130,(.a2 .bg .bool)),(142,(.a2 .bg (.a2 .bg r8))),(148,r8),(149,(.a2 .bg r8)),(152,(.a2 .bg cZ)),(158,fW),(163,(.fx .bg cH)),(182,(.st (.pr gZ (.pr aE (.pr (.a2 .bg .bool) (.pr (.a2 .bg nh) .nil)))))),(191,ml),(202,(.a2 .bg n3)),(205,n3),(234,(.a2 .bg (.a2 .bg .bool))),(259,(.st (.pr (.a2 .bg (.a2 .bg .bool)) (.pr (.a2 .bg .bool) .nil)))),(288,(.fn 0 .nil)),(321,qI),(323,c0)]
def Rc:∀a b,ar tt a=Y b->fj cp b a:=Rd (by kernel_rfl)
def E:fB:={P:=cp,tt:=tt,ok:=Rc,mix:=by kernel_rfl,glob:=[⟨0,301,.u8,pQ⟩],gok:=Vz Rc (S:=5) (by kernel_rfl) (by kernel_rfl),eqs:=[46],eqok:=Mv (by kernel_rfl)}
def J9:bm ah:=[gU,Sf,lx,cH,cZ,Sg,Si,.bool,qJ,Sd,c0,Sh,wb,pH,Sj,r7,Sm,Se,F7,Sq,Sr,yx,Ss,Sp,KQ,Sn,yw,KS,fK,(.optr yy),(.optr Bq),(.optr wc),(.optr F2),yy,St,wa,Bs,(.optr Bt),KP,(.optr n4),(.osl c0),n4,gZ,(.optr wa),Bo,wc,(.optr F4),F4,Sk,(.ptr .bg oR),(.optr gU),(.osl F3),KR,(.optr r8),F6,(.optr jA),nh,(.osl F5),(.optr F7),(.osl gZ),(.optr gZ),(.st (.pr gU (.pr aE qG))),(.ptr .bg qH),(.osl (.a2 .bg cZ)),(.ptr .bg r8),r8,Bq,(.mp cH),(.ptr .bg qI),ml,(.osl (.osl Bp)),(.st (.pr gZ (.pr aE qG))),F1,(.osl kt),(.ptr .bg Sl),n3,(.optr c0),(.optr oR),(.ptr .bg aE),(.optr ml),F2,(.optr qH),FZ,(.osl cZ),(.osl r8),fW,(.a2 .bg n3),(.ptr .bg n3),(.optr aE),aE,oR,qI,(.ptr .bg .nil),(.osl ml),(.a2 .bg ml),(.ptr .bg Br),(.a2 .bg nh),(.a2 .bg (.a2 .bg .bool)),(.st (.pr aE (.pr aE (.pr gU (.pr aE .nil))))),(.a2 .bg gZ),(.ptr .bg wd),(.osl (.mp cH)),(.ptr .bg ku),(.st (.pr gU (.pr aE (.pr yx qG)))),Bt,qH,(.osl (.osl c0)),(.a2 .bg c0)]
def aH {a:Func} {c:bm hl} {f:bm ah} {i:hp c->bv (iM c (lJ f))} (j:yv E) (e:X) (h:E.P.funcs[b]?=Y a) (g:(a.body.isSome&&b2 c.length a.ntmps)=bp:=by kernel_rfl) (l:(a.name=="runtime.NumGoroutine")=bq:=by kernel_rfl) (k:∀d,zZ ⟨E.tt,j.1,(Jq J9 e).2.1,a.ntmps,jU 0 c++nO (ju 0 c),[],(Jq J9 e).2.2,ju 0 c,[],[],E.glob,E.eqs⟩ ((Jq J9 e).1.ex (a.body.getD .skip)) (a.body.getD .skip) c a.results.toList f d=i d:=by intro d;kernel_rfl):aD E ⟨b,c,f,i⟩:=
 aD.q j _ h (To h l (by have:=g;simp only[cC] at this;exact this.1)) _ _ g k
def EF:aD E ⟨16,[.v aE,.v aE],[aE],su⟩:=aH aG 0x60d func16
def Ja:aD E ⟨55,[.v kt,.v aE],[c0],uB⟩:=aH (aj EF aG) 0x7a1e9b060d func55
def Av:aD E ⟨28,[.v c0],[.bool],q0⟩:=aH aG 0xd func28
def vg:aD E ⟨229,[.v fK],[lx],mn⟩:=aH aG 0x2082c821ab266d7f4b3435b0c101a28f318a51a6c0d func229
def s9:aD E ⟨227,[.v .bool,.v fK],[cZ],l5⟩:=aH (aj vg aG) 0x1830070321200d func227
def EE:aD E ⟨156,[.v aE],[cZ],sx⟩:=aH (aj s9 aG) 0xf8130f0123de5733a6c0d func156
def As:aD E ⟨155,[.v cZ],[cZ],pW⟩:=aH (aj s9 aG) 0x10558600d func155
def Ax:aD E ⟨77,[],[cH],uD⟩:=aH aG 0x608 func77
def u1 (a:Z):gS:=⟨E.tt,[],[],14,[0]++(jU 0 [.v fW]++nO (ju 0 [.v fW])),[(0,.val fW a)]++[],[],ju 0 [.v fW],[],[],E.glob,E.eqs⟩
noncomputable def sR:Code:=Tryz.f237.body.getD .skip
def u2:bU Oper:=(vq 3 sR).getD #[]
def H9:mg:=.two .none (.leaf) (.two .none (.two .none (.leaf) (.leaf)) (.leaf))
def Ec:mg:=.keep [0] (.two .none (.leaf) (.two .none H9 (.two .none (.leaf) (.leaf))))
def xo (a:Z):aO:=⟨[(4,.val .bool (a==0)),(3,.val fW a),(2,.val aE 0),(0,.val fW a)],[]⟩
def H8 (a:Z):b5->aO->bv (iM [.v fW] (lJ [.int .i64])):=MI E.tt [.v fW] [.tmp 2] [.int .i64] (a,())
def Wk:sR=.seq (Fe sR) (.seq (Fe (Qw sR)) (.seq (.region 3 u2 bq) .ret)):=by kernel_rfl
def Wn:u2.size=10:=by kernel_rfl
def Wl (a:Z) (b:b5->aO->bv h) (c:aO->bv h):hI (u1 a) .leaf (Fe sR) ⟨[(0,.val fW a)],[]⟩ h (AW (λd=>hI (u1 a) H9 (Fe (Qw sR)) d h (AW c b)) b)=bif a==0 then b .ret ⟨(2,.val aE 32)::(xo a).g,[]⟩ else c (xo a):=by kernel_rfl
def Wh (a:Z) (b:aO->bv h):k1 (u1 a) u2 [0,1,2,3,4] (xo a) b=b ⟨(9,.val fW (cc.wrap (ey cc a (cc.wrap (0-a))*125613361)))::(8,.val fW (ey cc a (cc.wrap (0-a))))::(7,.val fW (cc.wrap (0-a)))::(6,.val fW a)::(5,.val fW a)::(xo a).g,[]⟩:=by kernel_rfl
def Wi (a c d b:Z):k1 (u1 a) u2 [5,6,7,8,9] ⟨(9,.val fW b)::(8,.val fW c)::(7,.val fW d)::(6,.val fW a)::(5,.val fW a)::(xo a).g,[]⟩ (H8 a .ret)=(eJ cc b 27).bind λe=>(ao pQ e).bind λf=>Y (bK.wrap f,()):=by kernel_rfl
def Wo (a:Z):H8 a .ret ⟨(2,.val aE 32)::(xo a).g,[]⟩=Y ((32:Z),()):=by kernel_rfl
def Wm (a:Z) (c:hp [.v fW]) (e f:Code) (b:b5->aO->bv h) (g:c=(a,())):hI ⟨E.tt,[],[],14,jU 0 [.v fW]++nO (ju 0 [.v fW]),[],[],ju 0 [.v fW],[],[],E.glob,E.eqs⟩ Ec (.seq e (.seq f (.seq (.region 3 u2 bq) .ret))) ⟨nr 0 [.v fW] c,ns 0 [.v fW] c⟩ h b=hI (u1 a) .leaf e ⟨[(0,.val fW a)],[]⟩ h (AW (λd=>hI (u1 a) H9 f d h (AW (λd=>k1 (u1 a) u2 (bI u2.size) d (b .ret)) b)) b):=by subst g;rfl
def Wj (b:hp [.v fW]):zZ ⟨E.tt,[],[],14,jU 0 [.v fW]++nO (ju 0 [.v fW]),[],[],ju 0 [.v fW],[],[],E.glob,E.eqs⟩ Ec sR [.v fW] [.tmp 2] [.int .i64] b=wP b:=by obtain⟨a,⟨⟩⟩:=b;show hI _ Ec sR _ _ (H8 a)=_;rw[Wk,Wm a _ _ _ _ rfl,Wl,Wn,show bI 10=[0,1,2,3,4]++[5,6,7,8,9] from rfl,HV,Wh,Wi,Wo];exact Eq.refl (bif a==(0:Z) then Y ((32:Z),()) else(eJ cc (cc.wrap (ey cc a (cc.wrap (0-a))*125613361)) 27).bind λc=>(ao pQ c).bind λd=>Y (bK.wrap d,()))
def RJ:jx:=⟨237,[.v fW],[aE],wP⟩
def O3:aD E RJ:=
 aD.of (fn:=Tryz.f237) (rs:=[.tmp 2]) [] [] [] Ec func237 (by kernel_rfl) (by kernel_rfl) (by kernel_rfl) call237 Q4 (by intro a;exact Wj a)
def OG:aD E ⟨160,[.v cZ],[aE],qZ⟩:=aH (aj O3 (aj vg aG)) 0xfff03f421b60061aa16f0a6c0d func160
def At:aD E ⟨161,[.v cZ],[cZ],qY⟩:=aH (aj s9 aG) 0x10558600d func161
def O2:aD E ⟨233,[.v fK,.v aE],[lx],wT⟩:=aH aG 0x53d01391bde7118d0ac7d3ef9214db060d func233
def I5:aD E ⟨234,[.v fK,.v aE],[lx,.bool],wU⟩:=aH aG 0xae324cae5979e8e0fe3c42bc0032316c0fa33799a98d35177a6226ce541ba6f9a5312616247cec1866b350374658d682429b060d func234
def OJ:aD E ⟨165,[.v cZ],[cZ],zn⟩:=aH (aj s9 aG) 0x10558600d func165
def Zc:aD E ⟨230,[.v fK,.v fK],[lx],C2⟩:=aH aG 0x41f880420be0ec3b4b01fad20a17d5a9cdab20ad391bde7118d0ac7d3ef9214db060d func230
def O1:aD E ⟨231,[.v fK,.v fK],[aE],zo⟩:=aH aG 0x620a429b060d func231
def Zd:aD E ⟨232,[.v fK,.v fK],[lx],zp⟩:=aH aG 0x2bfb002c07ff882a23ead4e6d590569c77118d0ac7d3ef9214db060d func232
def EC:aD E ⟨153,[.v cZ,.v cZ],[cZ],sw⟩:=aH (aj Zd (aj O1 (aj Zc (aj vg (aj s9 aG))))) 0x87eec45f48a50c4d35ea5dbd0327ba273d8d7d9851599a1b93c028393a4a49226da742b0e4b5741c7d1a4425335b38ac9ddf6ec6d73aa14fbcfefe8f838d623e950613abe741d88d1c5709c0f41a3bd5b492627075fd81041753060d func153
def IT:aD E ⟨159,[.v cZ,.v cZ],[cZ],wS⟩:=aH (aj OJ (aj EC aG)) 0x5e73c6ad8004bcf2b753060d func159
def ED:aD E ⟨154,[.v cZ,.v aE],[cZ],n9⟩:=aH (aj I5 (aj O2 (aj s9 (aj IT (aj EE (aj As aG)))))) 0x657a928fb28058de5154418953bd06329486eca3a7945218b305d21ce9d76312700b99aa9feb8968fe29e0c2b7cc5630429aa70f4b3f0612bdd729b060d func154
def OH:aD E ⟨162,[.v cZ,.v aE],[cZ],wW⟩:=aH (aj ED aG) 0x12a206e95ad94ccb18d26e4798ccc8a34c0d func162
def I6:aD E ⟨238,[.v fW],[aE],wO⟩:=aH aG 0x2b42385dc039ada07d3 func238
def IU:aD E ⟨163,[.v cZ],[aE],uC⟩:=aH (aj I6 (aj vg aG)) 0x1870070758600d func163
def vh:aD E ⟨78,[.v cZ,.v aE],[cH],o0⟩:=aH (aj Ax (aj IU (aj OH (aj At (aj OG (aj As aG)))))) 0x963e283b401bc6a47f500e722ae4a11b67b635a8a6db6db060d func78
def Pp:aD E ⟨96,[.v aE],[cH],wV⟩:=aH (aj vh (aj EE aG)) 0x18a00d func96
def tc:aD E ⟨74,[.v cH],[cH],mq⟩:=aH (aj vh (aj Ax aG)) 0xc570600d func74
def tb:aD E ⟨72,[.v cZ],[aE],mU⟩:=aH (aj As aG) 0xd func72
def O7:aD E ⟨251,[.v .bool,.v c0],[c0],q1⟩:=aH aG 0x60d func251
def Zg:aD E ⟨248,[.v .bool,.v aE],[c0],zt⟩:=aH (aj O7 aG) 0x8a2dc93060d func248
def ZJ:aD E ⟨288,[.v cZ,.v aE],[.bool],zm⟩:=aH (aj I5 (aj vg aG)) 0x2990006591f2c01c2d628060d func288
def ZK:aD E ⟨289,[.v .bool,.v aE,.v .bool,.v aE],[.bool],Db⟩:=aH aG 0xe2860d func289
def Zh:aD E ⟨249,[.v .bool,.v cZ,.v aE,.v .bool,.v aE],[cZ],C7⟩:=aH (aj tb (aj ZK (aj ZJ (aj OH (aj OG (aj EE (aj EC aG))))))) 0x4841b1f4c951b3668961efe0046ea6adac908c330f1e6893f358452583050a227323b3c816a80161d792bca935c86b039431f0d9047b5c98b2fe17e6a536c48e2860d func249
def Zi:aD E ⟨250,[.v cZ],[aE,.bool],C0⟩:=aH (aj As aG) 0x6ce369aa2348940f9bc72429b6c0d func250
def OP:aD E ⟨181,[.v .bool,.v cZ,.v aE,.v .bool,.v aE],[c0],zu⟩:=aH (aj O7 (aj Zi (aj Zh (aj Zg (aj IU (aj ED aG)))))) 0x2cd3add023f828516648d1039f3c84d19dcc4db6c48e2860d func181
def Pq:aD E ⟨99,[.v cH,.v aE],[c0],zr⟩:=aH (aj tc (aj tb (aj OP (aj At aG)))) 0x19da5495bdf3e1e25d606f1bd81ea02760dd565cb46a6db060d func99
def Y9:aD E ⟨221,[.v aE,.v aE],[c0],Dc⟩:=aH (aj Pq (aj Pp aG)) 0x60d func221
def Yy:aD E ⟨144,[.v c0],[c0],G1⟩:=aH (aj Y9 aG) 0xd func144
def aaz:aD E ⟨58,[.v c0,.v aE],[c0],uA⟩:=aH (aj Av (aj EF (aj Yy aG))) 0x60d func58
def YE:aD E ⟨17,[.v kt,.v aE,.v aE,.v aE],[yw],CT⟩:=aH (aj aaz (aj Ja aG)) 0x10e057a81411e7be866cc52f25d6df74f79002f7e5810665d9a801364afb04dd9cca493b5616526035f285796a5e2d5d30229a9e74e8f8805c46276d4157b88b6ecd9611b5df63da49a48cfe5f9be76f12429b0e2860d func17
def Y6:aD E ⟨217,[.v kt],[.bool],Df⟩:=aH (aj Av aG) 0x30a5214c0d func217
def Aq:aD E ⟨133,[.v jA],[aE],q2⟩:=aH (aj Y6 aG) 0xdd7ff49089a231007afee5752252d7622a0dbbe989d68087900b4c0d func133
def aaJ:aD E ⟨98,[.v jA,.v aE,.v aE],[c0],Dg⟩:=aH (aj Aq aG) 0x137fa01285e44d1e0174c2860d func98
def aaD:aD E ⟨79,[.v c0],[.bool],Dd⟩:=aH aG 0xd func79
def Au:aD E ⟨27,[.v c0],[cH],kU⟩:=aH (aj aaD (aj vh (aj Ax (aj Av aG)))) 0xb408ac93c00cf40f9bcce9b6c0d func27
def aaI:aD E ⟨97,[.v cH],[cH],C5⟩:=aH (aj vh (aj tc (aj At aG))) 0x2771e6eff1011974c90a38b2ee992d3a3536c0d func97
def YH:aD E ⟨18,[.v kt,.v aE],[gZ],CU⟩:=aH (aj Ja (aj EF aG)) 0x234ec7fd89867c4437f42bce11987e021f92218c37bd4e5bee93d36ad1574e1189dd0058e85a1536b71dbe925704be32809846be9bf06b27a6e88228e95f2d642f65464c965222429b060d func18
def OC:aD E ⟨134,[.v jA],[pH],zv⟩:=aH (aj Aq aG) 0xfef023d260ad6452e7260cf4f48a8d7162a9b99f4bacd37e17178bb3f493cb5e0eaea4879c5f018bbb47e69cbd7bc50fe8bb0c11d96cd7f708e754d2990578536c0d func134
def Ys:aD E ⟨135,[.v aE,.v aE,.v (.a2 .df n3)],[yw],Dh⟩:=aH aG 0x371ff193cf3fc0cfa1ec98b307b3cbf2d6fa702fc971a6f1f888186cacebc9f94f755502e7a86885ecf97108422cf8c7ae7e63cea7efbf91c939942949dd4fea69c14e5839cdd4a34be939203e47f66450564cd6d2e720d4b74ab61df1649acbb487a9e98b15c332d335c5ac269e43b625815c8c0cdf6be770e1d5ca48536c2860d func135
def Pk:aD E ⟨51,[.v jA],[wa,aE],sB⟩:=aH (aj Ys (aj OC (aj Aq aG))) 0xf150cdfe5fe3a923bcd72fea59a722058eaacb1254ce4166d1c772db8cc8e784be87ac5ecd2272bc29b6c0d func51
def OD:aD E ⟨136,[.v aE],[wb],zy⟩:=aH aG 0xdfc82467e0d9fb84722a694c90a6c0d func136
def OE:aD E ⟨137,[.v (.a2 .df (.a2 .df .bool))],[Bq],zw⟩:=aH aG 0x2fa291a1920f6ec8c280bc232e3965453e53d6c324c10abd6cc97b98d778430dac0269ceedd3dd9d281659a5cdefa49bf489d1800774521ac312d619e7e33cb5c33230451508a1e694b3490a6c0d func137
def Pl:aD E ⟨52,[.v jA],[n4,aE],sC⟩:=aH (aj OE (aj OD (aj OC (aj Aq aG)))) 0x6cf78da74f226906f4ea204e6f85ca6b4eb16595fcf7eb4861a59d716cb636ae5b71991c9091d0f58bd9a451e14db6c0d func52
def OX:aD E ⟨212,[.v eU],[.bool],zk⟩:=aH aG 0x30a5214c0d func212
def I4:aD E ⟨214,[.v eU,.v aE],[.bool],sv⟩:=aH aG 0xc414853060d func214
def EB:aD E ⟨138,[.v lw],[aE],uF⟩:=aH (aj I4 (aj OX aG)) 0x21b3ec802cac4b24b608f396b0c3542a578536c0d func138
def Yt:aD E ⟨139,[.v eU,.v aE],[.bool],CW⟩:=aH aG 0xd89480d660c5e9f759579d61bf8532f9214db060d func139
def Y7:aD E ⟨218,[.v eU,.v aE],[.bool],Di⟩:=aH aG 0x4f6b0c414853060d func218
def Y8:aD E ⟨219,[.v eU],[.bool],Dj⟩:=aH (aj I4 aG) 0x30a5214c0d func219
def OY:aD E ⟨220,[.v lw],[wb],zx⟩:=aH aG 0xb703efaaa9936cfb20a10e668944cb1d7bbc4ba8b9a6bd8625b2d4652391b40b242a578536c0d func220
def Yv:aD E ⟨140,[.v lw,.v eU],[n4,aE],Dk⟩:=aH (aj OY (aj Y8 (aj Y7 (aj EB (aj OE (aj OD aG)))))) 0x1c6a8d6b90b7d9b4a14910fa08291137b6378284e37216ceb0a252989437ace3f34a19308f1a6ddc4598817dd8fbd12093b2d9732d5d489452393323a36e1c3648bbc29b6db060d func140
def Pm:aD E ⟨53,[.v lw,.v eU],[n4,aE],q3⟩:=aH (aj Yv (aj Yt (aj EB aG))) 0x1bc2423828060d func53
def Yw:aD E ⟨141,[.v lw],[F6],Dl⟩:=aH (aj OY aG) 0x4ca507872a7daa731a2232cab0fd68412cdb299cf06a9b3733afa94e51321d3ffc580b32e81d4c0d func141
def OF:aD E ⟨142,[.v (.ptr .df (.st (.pr (.a2 .df (.a2 .df .bool)) (.pr (.a2 .df .bool) .nil)))),.v aE],[gU],zA⟩:=aH aG 0x37b000383e5fe082858959575560c7711810a65f2429b060d func142
def Yx:aD E ⟨143,[.m F6,.v aE],[],zz⟩:=aH (aj OF aG) 0x10b27fa69338092a4b941ed211787e1ab7e378c6572663404371af2155fa3e0af9c3200e80ea256f3568ed84a33a765ade3c24123285034082439e14c1d func143
def aaw:aD E ⟨54,[.v lw],[(.osl gZ),aE],zB⟩:=aH (aj Yx (aj OF (aj Yw (aj EB aG)))) 0xfc11063dcb87bbaa7f1b023ddd77232fd2750a42b1937c82bc29b6c0d func54
def Yp:aD E ⟨13,[.v jA,.v eU,.v kt],[KQ],zj⟩:=aH (aj Ja (aj aaw (aj Pm (aj Pl (aj Pk aG))))) 0xb84d09814cb6d4647c12a16f58aadc57e142c0551a3acf0dcb222d39d5c4a9ba193d41e123cf43ce0f83692017bbfb59a59df8fdcb84f68a1d765e310b27c1368e60c868da2d735c6a4c7c7b8a9c4b64aee2f9dbe0b39efeee53de6b7d1c218e2585fc3332690c08f0961b323db7a2d5d8eccb14da8df8e11887ef90e36a0d9979908fa5799a09dc2faf449786faf32dc30ff0c2d34f28886c0f1104c5b0480a2e56620f2b6ac48e5ad31eea72125e4bc29b6db6c2860d func13
def YI:aD E ⟨182,[.v aE,.v aE,.v aE],[.bool],CE⟩:=aH aG 0x2860d func182
def OW:aD E ⟨211,[.v aE],[.bool],sn⟩:=aH aG 0xd func211
def I2:aD E ⟨200,[.v aE,.v aE],[.bool],um⟩:=aH (aj OW aG) 0x60d func200
def Zj:aD E ⟨252,[.v eU],[.bool],CL⟩:=aH (aj I2 aG) 0x30a5214c0d func252
def YJ:aD E ⟨183,[.v jA],[.bool],CC⟩:=aH (aj Zj aG) 0xc4e38401d66b93f29e80930b3bf78f127d54e40fbd6eac4b248cdff8c5060d1e00b4c0d func183
def IZ:aD E ⟨194,[.v c0],[aE,c0],wG⟩:=aH aG 0xd func194
def vf:aD E ⟨147,[.v c0],[.bool],ny⟩:=aH (aj IZ aG) 0xd func147
def YL:aD E ⟨185,[.v c0],[.bool],GQ⟩:=aH (aj vf aG) 0xd func185
def Zk:aD E ⟨253,[.v kt,.c 185 []],[aE],GS⟩:=aH (aj YL aG) 0x3195177853060d func253
def YK:aD E ⟨184,[.v kt,.c 185 []],[.bool],CF⟩:=aH (aj Zk aG) 0x60d func184
def EA:aD E ⟨101,[.v jA],[aE],ss⟩:=aH (aj YJ (aj YI (aj YK aG))) 0x67b600800a7b34c0d func101
def XZ:aD E ⟨102,[.v eU,.v aE],[gU,.bool],Dx⟩:=aH aG 0x24ba7e56d00a13fd1c6e649549b74dff84c188d32f8afd54b1020cf3dcc1d7726fed04fe9ab949db0f0a6db060d func102
def OQ:aD E ⟨186,[.v jA],[pH],wQ⟩:=aH aG 0xffa42fc666439e93c588aef5307a40487df8decb96c7d388140c83212c38c63dac169e0af80c5dda3f34e5ebde287f45d879e23ce5ba6bfb8473aac94c8b4af0a6c0d func186
def ZL:aD E ⟨290,[.v (.a2 .df n3)],[pH],GR⟩:=aH aG 0x68a00d func290
def IR:aD E ⟨122,[.v aE,.v aE],[aE],uk⟩:=aH (aj OW aG) 0x60d func122
def ZN:aD E ⟨293,[.v eU],[aE],BQ⟩:=aH aG 0x632a2d9d6f0a6c0d func293
def Pf:aD E ⟨292,[.v n3,.v n3],[aE],wR⟩:=aH (aj ZN (aj IR aG)) 0x44484baca6d40def2b0df6a0133753060d func292
def Z7:aD E ⟨329,[.m pH,.v aE,.v aE,.c 292 []],[],zi⟩:=aH (aj Pf aG) 0x1fdca31dde7cb0d8bf34bc3c1d304081ba01abde156dcc56a12968308e8d4d148233fc240beae1c265119b1fcee01a7912ec06fb61d06a528c369ed21e670c0613412180c2c38a1d func329
def Z8:aD E ⟨330,[.m pH,.v aE,.v aE,.v aE,.c 292 []],[],CS⟩:=aH (aj Pf aG) 0x618d4d1092b124cd52f05993a6e2203a40c66b8b14bd9add5ea5af44781cf15546dae1a825886c2242b82dc7ebc6c7ab7ca64629fd4829c93800280de8bcc5ca1238a1d func330
def ZX:aD E ⟨314,[.m pH,.v aE,.c 292 []],[],G0⟩:=aH (aj Z8 (aj Z7 aG)) 0x37989f703c821cbbc5f48089b3c0428d79ba2d5bd4a208b73ed8741a93cb0db19d4a09848e70d93620914769b0a1d func314
def ZM:aD E ⟨291,[.m pH,.c 292 []],[],GY⟩:=aH (aj ZX aG) 0x1d func291
def Zl:aD E ⟨254,[.v (.a2 .df n3)],[pH],CD⟩:=aH (aj ZL (aj ZM aG)) 0x0 func254
def YM:aD E ⟨187,[.v aE,.v aE,.v (.a2 .df n3)],[yw],CB⟩:=aH (aj Zl aG) 0x959d45da31ed7102809b9a0142053dc3f335aaee3b3355322320a652b1454f9e264022e136aa17af72e9088f5dbbd5332351d063bfd0f6d35eac33b7abac4c38a38504bc0fac0b2f6f07869dc2f816bcd5c9b5f959c9031e7f90692baab0b010c0f72fb6bd57bf8332d723fb3cbf7683cee3680f113a5618198a33039496922ae51ed9585e0a97f9af0bc7eee3ea155817ed8e712dcef21db00ae4745efb5f3faaceae5276f0a6c2860d func187
def X0:aD E ⟨103,[.v jA],[wa,aE],CA⟩:=aH (aj YM (aj OQ (aj EA aG))) 0x1df4337f97f3c33500e9d4b34e440b6203aab2c6b1d5349e5d368e3b96dc664743c784be87e89adecd2632bc29b6c0d func103
def OR:aD E ⟨188,[.v aE],[wb],y0⟩:=aH aG 0xc169ba8367ee11c8ab853234f0a6c0d func188
def YN:aD E ⟨189,[.v jA],[pH],Cz⟩:=aH (aj OQ (aj EA aG)) 0x345b8600d func189
def OS:aD E ⟨190,[.m wb,.v aE,.v aE],[],y3⟩:=aH aG 0x1b90811b875b96fba90abaafbe04f9b237bf78113530a1d func190
def Zm:aD E ⟨255,[.v (.a2 .df (.a2 .df .bool)),.v aE],[gU],B2⟩:=aH aG 0x948004acb192e60c7711810d05f24c1bc29b060d func255
def OT:aD E ⟨191,[.v (.a2 .df (.a2 .df .bool))],[Bq],y2⟩:=aH (aj Zm aG) 0x19b0646c8aac2424bc2bfce5b728325d2f1d7610c5e59c1ac58db9c2ae34926b4bfe5b98679f8cf2d70cc8c114542287c452cd240f0a6c0d func191
def X1:aD E ⟨104,[.v jA],[n4,aE],yZ⟩:=aH (aj OT (aj OS (aj YN (aj OR (aj EA aG))))) 0x1cf822550ff7d77877ce66f6c1b636ae5b7199653012123a1e02ab737b34a9bc29b6c0d func104
def YS:aD E ⟨197,[.v eU,.v aE],[.bool],B3⟩:=aH aG 0x13f44846cbb9863e60a39d3c29b060d func197
def YV:aD E ⟨201,[.v aE],[.bool],CP⟩:=aH aG 0xd func201
def IQ:aD E ⟨113,[.v eU,.v aE],[aE,.bool],uy⟩:=aH (aj YV (aj I2 aG)) 0x1098cc9b28a3b4db060d func113
def OU:aD E ⟨198,[.v lw,.v aE,.v aE],[.bool],wH⟩:=aH (aj IQ aG) 0x8e0e02860d func198
def Oz:aD E ⟨107,[.v lw],[aE],yY⟩:=aH (aj OU (aj YS aG)) 0x4bd4d424fd40bed2a076cf69658e6c3a9308c83eeb40b7f36760e07f7730cdd4d51aa578536c0d func107
def Zp:aD E ⟨258,[.v lw,.v aE],[.bool],B6⟩:=aH aG 0x23828060d func258
def ZD:aD E ⟨280,[.v c0],[aE],L2⟩:=aH aG 0x209746502b745dc039f07d3 func280
def OV:aD E ⟨210,[.v c0],[aE],Cx⟩:=aH (aj ZD aG) 0xd func210
def aac:aD E ⟨336,[.m gU,.v aE,.v aE],[],CO⟩:=aH (aj I2 aG) 0x38a4b03519c13a64e224dcdca5ab1d58671f6a6e5efc15ef57660e8f36506b24e15fd6d5d47412c43611215352028144b5ef00d873e014130d9eb4879003018400466030b0a1d func336
def Z9:aD E ⟨332,[.m gU,.v aE,.v aE,.v aE],[],CR⟩:=aH (aj aac aG) 0xa037a2f317458008e9a7451b130b0185b func332
def ZY:aD E ⟨316,[.m gU],[],zh⟩:=aH (aj Z9 (aj OV aG)) 0x0 func316
def RK:jx:=⟨259,[.v eU],[.bool],B5⟩
def Zq:aD E RK:=KO.adI bn (sort:=λd=>(zh (d,())).map λa=>a.1) (λe f b=>by obtain⟨a,c,rfl⟩:=fD.1 b;exact ZY.2 (e,()) a c)
def Zo:aD E ⟨257,[.v aE,.v Bs],[.bool],GJ⟩:=aH (aj Zp aG) 0x60d func257
def ZO:aD E ⟨294,[.v eU,.c 257 [Bs]],[aE],GW⟩:=aH (aj Zo aG) 0x3195177853060d func294
def Zn:aD E ⟨256,[.v eU,.c 257 [Bs]],[.bool],CJ⟩:=aH (aj ZO aG) 0x60d func256
def YP:aD E ⟨192,[.v lw,.v eU],[aE],B1⟩:=aH (aj Zq (aj Oz (aj Zn aG))) 0x23828060d func192
def YQ:aD E ⟨193,[.v lw,.v eU],[n4],B4⟩:=aH (aj OU (aj OT (aj OS (aj OR aG)))) 0x18715cf7c5789cb2c9b69bf02e37c46b3d0ab0d91a67ec23bf03771115205fd4aab44e10616d60f396e96c6d5d46e452392123a37717b64961143c29b060d func193
def X2:aD E ⟨105,[.v lw,.v eU],[n4,aE],y1⟩:=aH (aj YQ (aj YP aG)) 0x1bc2423828060d func105
def l9:aD E ⟨226,[.v fK],[fK],iz⟩:=aH aG 0x1a28f318a51a6c0d func226
def ta:aD E ⟨239,[.v .bool,.v fK],[cZ],l4⟩:=aH (aj l9 aG) 0x21200d func239
def EH:aD E ⟨168,[.v aE],[cZ],uu⟩:=aH (aj ta aG) 0xdf530f0123de5733a6c0d func168
def YR:aD E ⟨195,[.v c0],[.bool],BZ⟩:=aH aG 0xd func195
def EK:aD E ⟨240,[.v fK],[lx],uz⟩:=aH aG 0x10a00d func240
def I1:aD E ⟨196,[.v cZ],[cZ],sq⟩:=aH (aj EK (aj ta aG)) 0x13eff81bf3c519fa4e0f047e9e9ffe2c0dd4c0d func196
def IX:aD E ⟨177,[],[cH],yV⟩:=aH aG 0x608 func177
def Za:aD E ⟨222,[.v cZ],[cZ],Ca⟩:=aH (aj EK (aj ta aG)) 0x2e8f139fdf62eff0bf10f98af03cb94add4c0d func222
def xJ:aD E ⟨149,[.v cZ],[aE],pU⟩:=aH (aj l9 aG) 0x58600d func149
def OZ:aD E ⟨223,[.v cZ],[aE],y5⟩:=aH (aj O3 aG) 0x18db00319516d1e14c0d func223
def ZF:aD E ⟨282,[.v fK],[aE],y8⟩:=aH (aj I6 aG) 0xd func282
def EJ:aD E ⟨224,[.v cZ],[aE],sp⟩:=aH (aj ZF (aj l9 aG)) 0x58600d func224
def Pd:aD E ⟨286,[.v fK,.v aE],[fK],wL⟩:=aH (aj l9 aG) 0x25561a988284004635c91aca8599e2f0a6db060d func286
def ZW:aD E ⟨313,[.v fW],[.bool],GK⟩:=aH aG 0xd func313
def Z6:aD E ⟨328,[.v fK,.c 313 []],[aE],GX⟩:=aH (aj ZW aG) 0x3195177853060d func328
def ZV:aD E ⟨312,[.v fK,.c 313 []],[.bool],zf⟩:=aH (aj Z6 aG) 0x60d func312
def Pe:aD E ⟨287,[.v fK,.v aE],[fK,.bool],y7⟩:=aH (aj l9 (aj ZV aG)) 0xbbe80961156045d82d18e7622afa3a37fab0b3f09b34a95aa7f65628436c8eb47c82b9eb684db060d func287
def I8:aD E ⟨245,[.v fK,.v fK],[fK],wK⟩:=aH (aj l9 aG) 0xdb4c17e506b0084181cf87f15780fd690b822cf56a736a694e64aef79d79b0e0d1f4400542702a07d3 func245
def O5:aD E ⟨247,[.v cZ,.v aE],[cZ,aE],qW⟩:=aH (aj Pe (aj Pd (aj I8 (aj ta (aj l9 aG))))) 0x2c0d40b7824f6784d8b1f0638b6aed0c267a5d26b10ad4f50c1e4140483ac0dd20c78ab926cc6453060d func247
def O0:aD E ⟨225,[.v cZ,.v aE],[cZ],yW⟩:=aH (aj O5 aG) 0x12a206e95ad94ccb18d26e4798ccc8a34c0d func225
def Ar:aD E ⟨148,[.v cH],[cH,.bool],pT⟩:=aH (aj O0 (aj EJ (aj OZ (aj Za (aj IX (aj xJ aG)))))) 0x1326d3dddf3a6b7574272efdf39dec77aaf10f35f74536fe341c5335c93633cc66684b4db6c0d func148
def EG:aD E ⟨167,[.v cZ,.v aE],[cH],uo⟩:=aH (aj Ar aG) 0x196325628060d func167
def p8:aD E ⟨106,[.v c0],[cH],jW⟩:=aH (aj I1 (aj YR (aj IZ (aj EH (aj EG aG))))) 0x4b1eed0378d36dc666172033de6f513426c0d func106
def aah:aD E ⟨39,[.v jA,.v eU],[(.ptr .bg wd),aE],w6⟩:=aH (aj p8 (aj X2 (aj X1 (aj X0 (aj XZ (aj EA aG)))))) 0x5018ebc57ea0905347e1dabe17afcc003ed06288a63946180f7ee1f5c9b4cbb46d42b47ca54170347b73464365fea0eba37415b76f300aa73978eec5622fcfde5343ed275965c844335fe446172956de91f65cb8a27fd6f0273e4889c47fcd3fc925964538d48400b05bd924b4e5415880f4eb014fae491d978b4fb45d4b0aba88dd274cdd4b44d0b55f578d602ddfa21edc28a626132d9ede1c31fd9acfec65d79dbfe4a5d606f1be309200dd565cb46a6db6db060d func39
def ZP:aD E ⟨299,[.v c0,.v c0],[c0,c0],Cy⟩:=aH aG 0x60d func299
def Zs:aD E ⟨260,[.v c0,.v c0],[c0,c0],GP⟩:=aH (aj ZP aG) 0x60d func260
def YT:aD E ⟨199,[.v eU,.v aE],[gU],CM⟩:=aH (aj Zs aG) 0x4f1df1c7b43d69ee5cbeb6acff078e0b6c79603b14c9a2997259069be51e39053060d func199
def X3:aD E ⟨108,[.v ku,.v aE],[gU,.bool],Du⟩:=aH (aj YT aG) 0x8c6b0a4915c00bd6692471aa627386d879118613a822be88c5866006e60ebb93013c46523febc29b060d func108
def X5:aD E ⟨110,[.v oR,.v aE],[.bool],Dw⟩:=aH aG 0x29886fc0076f4bdfe95654edcc34053e6b0a1e14db060d func110
def X7:aD E ⟨112,[.v ku,.v eU,.v oR],[.bool],Dv⟩:=aH (aj IQ aG) 0x313b180181daa81aac5eb8bc29b6c2860d func112
def X4:aD E ⟨109,[.v oR,.v (.ptr .df aE)],[.bool],G3⟩:=aH (aj X5 aG) 0x57828060d func109
def X8:aD E ⟨114,[.v ku,.c 109 [(.ptr .df aE)]],[aE],GU⟩:=aH (aj X4 aG) 0x3195177853060d func114
def aak:aD E ⟨41,[.v ku,.c 109 [(.ptr .df aE)]],[.bool],CG⟩:=aH (aj X8 aG) 0x60d func41
def X6:aD E ⟨111,[.v oR,.v (.ptr .bg ku),.v (.ptr .df gZ)],[.bool],G4⟩:=aH (aj X7 aG) 0x15e0e02860d func111
def X9:aD E ⟨114,[.v ku,.c 111 [(.ptr .bg ku),(.ptr .df gZ)]],[aE],GV⟩:=aH (aj X6 aG) 0x3195177853060d func114
def aal:aD E ⟨41,[.v ku,.c 111 [(.ptr .bg ku),(.ptr .df gZ)]],[.bool],CH⟩:=aH (aj X9 aG) 0x60d func41
def aaj:aD E ⟨40,[.v lw,.v ku],[aE],uJ⟩:=aH (aj IQ (aj X3 (aj Oz (aj aal (aj aak aG))))) 0x18150ea83acfc35258f27581a39e74c5d1369b7838268caf65751e1fd1a083817c0984d9ac0bda67784ece531e9c3d2cdb68776d62592527f0e85fd0587d05d021347c83152d55954536db060d func40
def Yb:aD E ⟨115,[.v oR,.v (.a2 .df ks)],[gU,aE],Ct⟩:=aH aG 0x6fc9e5f6e37f070ceaf6e7f98519f8018dcd9410b424c3745a1cc734aace3ce5b983aee4604f5994948b43c29b060d func115
def Yc:aD E ⟨116,[.v (.ptr .df (.st (.pr aE (.pr lw (.pr (.a2 .df (.fx .df cH)) .nil))))),.v aE,.v aE],[cH],w5⟩:=aH aG 0x19a02860d func116
def YW:aD E ⟨202,[.v eU,.v aE],[aE],zg⟩:=aH aG 0x3195177853060d func202
def IW:aD E ⟨172,[.v cH,.v cH],[cH,cH,.bool],wE⟩:=aH (aj Ar aG) 0x16dfd661c5ccb66bde98b8a9221192db268d4db060d func172
def EI:aD E ⟨180,[.v cZ,.v aE],[cZ],oY⟩:=aH (aj O5 aG) 0x848060d func180
def OM:aD E ⟨173,[.v cH,.v cH],[cZ,cZ,aE],yU⟩:=aH (aj EI aG) 0x9093705ab462aadc7bbb83df416ea3999ba9b060d func173
def ZU:aD E ⟨311,[.v fW],[.bool],BR⟩:=aH aG 0xd func311
def ZH:aD E ⟨284,[.v fW,.v fW],[aE],BP⟩:=aH (aj ZU aG) 0x60d func284
def I7:aD E ⟨241,[.v fK,.v fK],[aE],wI⟩:=aH (aj ZH (aj IR aG)) 0x620a429b060d func241
def O4:aD E ⟨246,[.v fK,.v fK],[fK],wJ⟩:=aH (aj l9 aG) 0x913b594e402c0809a80b1171f56a736b342e69c77118d0dc7d3ef92c25e14db060d func246
def IY:aD E ⟨179,[.v cZ,.v cZ],[cZ],us⟩:=aH (aj O4 (aj I8 (aj I7 (aj ta (aj l9 aG))))) 0x398267c5e5cb421c0bf15ec412370d6777027b00ff919578eb969b060d func179
def OL:aD E ⟨170,[.v cH,.v cH],[cH],yR⟩:=aH (aj IY (aj IX (aj OM (aj IW (aj EG aG))))) 0x21e434648060d func170
def Yd:aD E ⟨117,[.m r7,.v ks],[],Ck⟩:=aH (aj YW (aj OL aG)) 0x4d7eb7f7388a0e93d703f0f116e0d1ca88071de5398f98e789e7b619828025835f549337c3d2b21f3062a44aacb349de825ddc5800acc277de6dac0e127e483ada7b8e7ebc41feabe5600fa57752de1e93180e54aff3e888d164af718ffc3bbc7e83d634c2a36dea5612b34904e3c02256e87fd5be3fa3d944d6a8e9003feae5ec8ef5cc154e4ca4246038d0fd2c6093b61e14c1d func117
def aao:aD E ⟨43,[.v (.ptr .df (.st (.pr aE (.pr lw (.pr (.a2 .df (.fx .df cH)) .nil))))),.v oR,.v (.a2 .df ks)],[r7,aE],Ci⟩:=aH (aj Yd (aj Yc (aj Yb aG))) 0x79006c4a046b69142cf4fcfd2c095d0c411aff892803a8c831265f9cdf6f83a8c271127dd76b6ea4e1d5f411ebaf3515246d2f593130c451b113bbcd932e301e093c0987fc92005beca2b4328551ca1cba4c9f02122774d5d1e4b75954bb2b0648659be252c7745276b646b749c3ad22a4ae89b9cb78324ca13dc8377d85df53cd56c04492c64f64a4c4e7055a10bcc24f6321c66a40764cb4cd9b6847dd7f3c2950194a4a312761443e7a1f750295ac96edb79a0436c50afaa0438e8f9c9eb17551c278591d7cff4adb627b34bad079d86a39429046b7f389a52a0a3756dfd776285f33ef3ca4da4f46f88c874a6da31e860073087cc0eca1a3070c6b1d28fe13b2d59a1382001406f45e62e536c2860d func43
def EM:aD E ⟨83,[.v aE],[cH],qV⟩:=aH (aj EH (aj EG aG)) 0x18a00d func83
def OK:aD E ⟨166,[.v cH],[cH],wC⟩:=aH (aj Ar aG) 0x18a00d func166
def xK:aD E ⟨61,[.v cH],[aE],mT⟩:=aH (aj xJ (aj Ar aG)) 0xd func61
def IV:aD E ⟨169,[.v cZ],[cZ],ur⟩:=aH (aj EK (aj ta aG)) 0x14d10558600d func169
def ZR:aD E ⟨302,[.v cH],[qI],GI⟩:=aH (aj IV aG) 0xacaa17150fde9cdd00cdd4c0d func302
def Z0:aD E ⟨319,[.v qI],[aE],BU⟩:=aH (aj EJ aG) 0x28e0600d func319
def aad:aD E ⟨344,[.v cZ,.v cZ],[cZ],Cb⟩:=aH (aj IY aG) 0x425628060d func344
def ON:aD E ⟨174,[.v cZ,.v cZ],[aE],y4⟩:=aH (aj I7 (aj l9 (aj xJ aG))) 0xb1d628060d func174
def aaa:aD E ⟨333,[.v qI,.v aE],[cZ,aE,.bool],yT⟩:=aH (aj aad (aj O0 (aj EJ (aj EI (aj ON (aj EH (aj xJ aG))))))) 0x1c18518eef2bd6b077e5b23133f662829d83973b2b940fafa2c53c00f0fdbddf7b7bff50820b4cea6db060d func333
def Z2:aD E ⟨321,[.v qI,.v aE,.v aE],[cZ],BV⟩:=aH (aj aaa (aj OZ (aj I1 (aj EI (aj IY (aj EH (aj xJ aG))))))) 0x516e67d9c03d4be4b593b527a8a141cf3ec73874347881059210e08bec0ff815cc2e4256ca7579f26ae4cb26c2860d func321
def Z1:aD E ⟨320,[.v cZ],[aE,.bool],B8⟩:=aH (aj l9 aG) 0xa7c641ad7f1d2d071bccbdff54d885b951b13e8897972bc29b6c0d func320
def Ph:aD E ⟨322,[.v c0,.v .bool],[c0],uq⟩:=aH aG 0x60d func322
def Z3:aD E ⟨323,[.v .bool,.v aE],[c0],B0⟩:=aH (aj Ph aG) 0x8a2dc93060d func323
def Pg:aD E ⟨301,[.v qI,.v aE],[c0],yX⟩:=aH (aj Z3 (aj Ph (aj Z2 (aj Z1 (aj Z0 (aj IV aG)))))) 0x1ea87807b3e04826db060d func301
def Zt:aD E ⟨262,[.v cH,.v aE],[c0],BX⟩:=aH (aj xK (aj ZR (aj Pg (aj OK aG)))) 0x60d func262
def I3:aD E ⟨206,[.v ks,.v aE,.v aE],[c0],sr⟩:=aH (aj Zt aG) 0x2860d func206
def ZZ:aD E ⟨318,[.v c0],[aE],BW⟩:=aH (aj IZ aG) 0x107f69059a6c0d func318
def ZQ:aD E ⟨300,[.v kt],[.bool],BY⟩:=aH (aj ZZ aG) 0x316513c5e14c0d func300
def O8:aD E ⟨261,[.v c0],[c0],wF⟩:=aH (aj ZQ aG) 0xd func261
def Po:aD E ⟨86,[.v cH,.v cH],[aE,.bool],yS⟩:=aH (aj ON (aj OM (aj IW aG))) 0x444878060d func86
def YX:aD E ⟨203,[.v ks,.v aE],[cH,aE,aE],zd⟩:=aH (aj Po (aj EM (aj O8 (aj I3 (aj vf (aj p8 aG)))))) 0x588fc0c7e46989ff34ea4ff874136a293cca76335cc91c70abeda2e0d06c6e658ea48ba045260ed1b7d1c9ab649c3c29b060d func203
def YY:aD E ⟨204,[.v ks,.v aE],[cH],za⟩:=aH (aj O8 (aj I3 (aj p8 aG))) 0x648060d func204
def Zf:aD E ⟨244,[.v fK,.v fK],[fK],Ce⟩:=aH (aj l9 aG) 0x2fc9a11e020c623fde3ecd3f4be637e9993a2a0976f654c3424c58967aaca694e303fe3afed168f9093060d func244
def YG:aD E ⟨178,[.v cZ,.v cZ],[cZ],B9⟩:=aH (aj Zf (aj ta (aj l9 aG))) 0x38bc3f495bb3d89730d0333753060d func178
def xL:aD E ⟨90,[.v cH,.v cH],[cH],nw⟩:=aH (aj YG (aj IX (aj IW (aj EG aG)))) 0x1319ea9cf458ab1896b6ab26818f4fdfafcf5929aad2401baacb968d4db060d func90
def YZ:aD E ⟨205,[.v cH,.v cH],[.bool],wN⟩:=aH (aj xL (aj Po (aj EM aG))) 0xe1dc28060d func205
def Ye:aD E ⟨118,[.v ks],[gU,aE],Cl⟩:=aH (aj xL (aj xK (aj YZ (aj YY (aj YX aG))))) 0x95245812a0a3df38ebf57b4ecb1a4babfe744d44e861e3a90899d7d2f6ef9cda1db9a3f8a9e0152b992392b3730cb94b1e14c0d func118
def O9:aD E ⟨263,[.v ks],[gU],ze⟩:=aH aG 0x5e8002f94f0ae607ee1180abe5323af0a6c0d func263
def aaf:aD E ⟨350,[.v fK,.v fW],[fK,fW],Cd⟩:=aH (aj l9 aG) 0x10230b9c413d9c26b918d3b27d6f29214db060d func350
def Pj:aD E ⟨326,[.v fW],[aE],ux⟩:=aH (aj I6 aG) 0xd func326
def RL:jx:=⟨351,[.w fW,.v fK],[fW],y6⟩
def aag:aD E RL:=
 .q aG (.k [1] (.n (.n (.t .none (.d [.b [0],.a,.b [0],.b [0],.a,.a,.b [0],.a,.a,.b [0],.b [0],.a,.a,.a]) (.n (.t .none (.o (.k [5] (.p ⟨[(0,.w 0),(7,.v c0),(8,.v c0)],[(0,lx)]⟩ (.x 0 ⟨[(0,.w 0),(7,.v c0)],[(0,lx)]⟩) (.t (.vG [7,8] ⟨[(0,.w 0)],[(0,lx)]⟩) (.t .none (.d [.a,.a,.a,.a,.a,.a,.a,.a,.a,.a,.a,.a,.a,.b [0],.a,.a,.b [0],.b [0],.a,.a,.a,.a]) .l) .l)))) (.n (.t .none (.n (.o (.k [5,7,84,85] (.p ⟨[(0,.w 0),(9,.v c0),(10,.v c0),Kh 86],[(0,lx)]⟩ (.x 2 ⟨[(0,.w 0),(9,.v c0),(10,.v c0)],[(0,lx)]⟩) .l)))) (.n (.n (.n (.n (.t .none (.n (.o (.k [5,7,140,141] (.p ⟨[(0,.w 0),(9,.v c0),Kh 142],[(0,lx)]⟩ (.x 4 ⟨[(0,.w 0),(9,.v c0)],[(0,lx)]⟩) .l)))) .l))))))))))))) func351 call351
def aae:aD E ⟨345,[.v fK,.v fK],[fK,fK],Cc⟩:=aH (aj aag (aj aaf (aj Pj (aj Pe (aj Pd (aj I7 (aj EK (aj l9 aG)))))))) 0x18aeeeedfec8ea0182e7212c918b4d25c414f669368a4637e66e53e6c922f3a78536db6db060d func345
def aab:aD E ⟨334,[.v cZ,.v cZ],[cZ,cZ,aE],B7⟩:=aH (aj aae (aj O4 (aj I8 (aj ta (aj l9 aG))))) 0xf788e0cb21542043b401bc9747f2c0e722a5ad9592864d80a9ce054cf7b632a826db060d func334
def Z4:aD E ⟨324,[.v cH,.v cH,.v aE],[qI],BT⟩:=aH (aj aab (aj EJ (aj EI (aj IV (aj xJ aG))))) 0x2d553b25a474298294e1aa7de92eec6701da11a33e060d970ef81ccfc0ebba803338937a0666ea6c2860d func324
def EL:aD E ⟨303,[.v cH,.v cH,.v aE],[c0],so⟩:=aH (aj xK (aj Z4 (aj Pg (aj OK aG)))) 0x57bd99e6dacfaac797f32a792d67b8db2a141d202d2ede8d4c2860d func303
def Pb:aD E ⟨268,[.v (.a2 .df cH),.v cH],[qJ],oZ⟩:=aH (aj xL aG) 0x3a4a66f7e0931dc46c42f97c8e735bc29b060d func268
def YF:aD E ⟨171,[.v cH],[cH],BS⟩:=aH (aj I1 (aj Ar aG)) 0x93c00cf192331ba6c0d func171
def Jd:aD E ⟨85,[.v cH,.v cH],[cH],wD⟩:=aH (aj YF (aj OL aG)) 0x47b452bee004bcf2b753060d func85
def Pa:aD E ⟨267,[.m r7,.v eU,.v (.a2 .df cH),.v (.a2 .df cH)],[],pV⟩:=aH (aj xL (aj Jd aG)) 0x1df4ec24225ed6d23853449b6ba86f6015a49eb3cc6a16100ebbb3039beafd16394c3c0e945c8fc0bf9d0fb12faad8742398030ddda31ed7b4d0f46d0c0613c13980c36cd2c38a1d func267
def Zv:aD E ⟨265,[.v aE],[cH],Cq⟩:=aH (aj EM aG) 0x18a00d func265
def Zw:aD E ⟨266,[.v ks,.v eU,.c 265 [],.v cH],[wc,qJ,aE],GL⟩:=aH (aj EL (aj Zv (aj vf (aj p8 aG)))) 0x110edc05890329cfb891e901349a2b11286e4e1da761e9463519443f16cd2e312022052e81deec4c21f6d3b9d8d628dc0976d2a9bbb4e1eb89ab0af6c30ead0ac6a803630b4c2b01821dc12a599684c3c2b15bad91576eace834e39cc72dd0b848be79179ab611a49992c2ea285d33dd1205e24d51dde14db0e2860d akI
def Zu:aD E ⟨264,[.v aE,.v (.ptr .bg ks),.v (.ptr .bg aE)],[cH],Cp⟩:=aH aG 0x32efc6f7e0f204cdd4c2860d func264
def Zx:aD E ⟨266,[.v ks,.v eU,.c 264 [(.ptr .bg ks),(.ptr .bg aE)],.v cH],[wc,qJ,aE],GM⟩:=aH (aj EL (aj vf (aj p8 (aj Zu aG)))) 0x110edc05890329cfb891e901349a2b11286e4e1da761e9463519443f16cd2e312022052e81deec4c21f6d3b9d8d628dc0976d2a9bbb4e1eb89ab0af6c30ead0ac6a803630b4c2b01821dc12a599684c3c2b15bad91576eace834e39cc72dd0b848be79179ab611a49992c2ea285d33dd1205e24d51dde14db0e2860d akI
def Y0:aD E ⟨207,[.m r7,.v aE,.v c0],[(.osl ml),aE],Co⟩:=aH (aj EM (aj xK (aj Pb (aj Pa (aj O9 (aj p8 (aj Zx (aj Zw aG)))))))) 0x8a17e9f13b5ca7b18d7c88dcc46098fd8c3d0a5ca71f7e35ebc60e0916a764cff978abe49c9a29612ec91cb5b47a3f7847c6a35999ce961406ada1da9b0a1d func207
def Jb:aD E ⟨62,[.v (.a2 .df cH)],[cH],wM⟩:=aH (aj xL (aj Jd aG)) 0x5ec6547812c55d1cccdd4c0d func62
def Pc:aD E ⟨269,[.v aE,.v aE,.v aE,.v cH,.v cH,.v (.ptr .bg ks)],[cH],zc⟩:=aH (aj xL (aj Jd aG)) 0x1758e808151921459c5a34a403333337531648e2860d func269
def ZA:aD E ⟨270,[.v aE,.v (.ptr .bg (.fn 269 (.pr (.ptr .bg ks) .nil))),.v (.ptr .bg aE),.v (.ptr .bg aE),.v (.ptr .df nh)],[cH],Cm⟩:=aH (aj Pc aG) 0x137b461f07c441ccdd4c48e2860d func270
def Zy:aD E ⟨266,[.v ks,.v eU,.c 270 [(.ptr .bg (.fn 269 (.pr (.ptr .bg ks) .nil))),(.ptr .bg aE),(.ptr .bg aE),(.ptr .df nh)],.v cH],[wc,qJ,aE],GN⟩:=aH (aj EL (aj vf (aj p8 (aj ZA aG)))) 0x110edc05890329cfb891e901349a2b11286e4e1da761e9463519443f16cd2e312022052e81deec4c21f6d3b9d8d628dc0976d2a9bbb4e1eb89ab0af6c30ead0ac6a803630b4c2b01821dc12a599684c3c2b15bad91576eace834e39cc72dd0b848be79179ab611a49992c2ea285d33dd1205e24d51dde14db0e2860d akI
def ZB:aD E ⟨271,[.v aE,.v (.ptr .bg (.fn 269 (.pr (.ptr .bg ks) .nil))),.v (.ptr .bg aE),.v (.ptr .bg aE),.v (.ptr .df nh)],[cH],Cn⟩:=aH (aj Pc aG) 0x137b461f07c441ccdd4c48e2860d func271
def Zz:aD E ⟨266,[.v ks,.v eU,.c 271 [(.ptr .bg (.fn 269 (.pr (.ptr .bg ks) .nil))),(.ptr .bg aE),(.ptr .bg aE),(.ptr .df nh)],.v cH],[wc,qJ,aE],GO⟩:=aH (aj EL (aj vf (aj p8 (aj ZB aG)))) 0x110edc05890329cfb891e901349a2b11286e4e1da761e9463519443f16cd2e312022052e81deec4c21f6d3b9d8d628dc0976d2a9bbb4e1eb89ab0af6c30ead0ac6a803630b4c2b01821dc12a599684c3c2b15bad91576eace834e39cc72dd0b848be79179ab611a49992c2ea285d33dd1205e24d51dde14db0e2860d akI
def Y1:aD E ⟨208,[.m r7,.v aE,.v aE,.v kt],[(.osl ml),aE],zb⟩:=aH (aj Jb (aj Pb (aj Pa (aj O9 (aj p8 (aj Zz (aj Zy aG))))))) 0x220f838017cabcc38d878864832136ef3705b21222f92856b512d000ac6106dd11d7fd766c0ee7cdd1327c41821491f59bcb4d64e439477f40f33e7f9836363caab8dc72c67b37f903bbd26805f5ced22f4be8a5de809fd2db119dd3276eb914db624487400f6a296a30d4d13e4f43eff5f9c67dbfbaa2f4af39744c7fc7fe6ed2de915ec27b66e93b65d573b6a9d0794e3676424f1cee3b8566c3e45666ea6c38a1d func208
def Yf:aD E ⟨119,[.m (.optr Bt),.m r7,.v eU],[aE],Cu⟩:=aH (aj Y1 (aj Y0 (aj I3 aG))) 0x171e5c0d980f51515dfe713bf7bf1998ef583f32159c176172d22ac1c32788fffdecc426808b436db260497d926041bf98c4a80fa01fec211753fdf0aabfa8a69f79cb72448212a619dde991fa5577ac0fdfaa074cc49092bd5c7cfc90a5bff7b9eb418aa8505b5f1fe26481e08e7fb4e56b0bc20f7ce47190fa6dffd26f600515e958bac3d88dac24daebef5c721c25c32a62774a4d804f42e2a2f5291949fdc68d36d942cc33cac69f7622513414d7a452c323f1974748640655bdca2b4516da4356b826ff2b1476bb37c940347b4b3f26b68e74894c355e06c9045feda2aa6a9abf2c8ac32e03fc4c07e34ea4e3a75e8897f0708e30132137ca2d87fb4c742f65f1da0d561896e673f1676d63850054424626a5cd247681d66ac6c1252f0a6c2d func119
def aap:aD E ⟨44,[.m (.optr Bt),.m r7],[aE],Cw⟩:=aH (aj Yf (aj Ye aG)) 0x163fc65b80ff711c9112fdf745fa6cc48f05b0ff526cab8d6482a8d9a3c7cca2139475a43b6b1c24a2126b491da061b048d3 func44
def Yi:aD E ⟨121,[.v aE,.v aE,.v (.ptr .df eU),.v (.ptr .df ml)],[aE],uw⟩:=aH (aj IR aG) 0xe2860d func121
def ZC:aD E ⟨272,[.m gU,.v aE,.v aE,.c 121 [(.ptr .df eU),(.ptr .df ml)]],[],GZ⟩:=aH (aj Yi aG) 0x1fdca31dde7cb0d8bf34bc3c1d304081ba01abde156dcc56a12968308e8d4d148233fc240beae1c265119b1fcee00a0512ebfc0361cf80528c369ed21e400c0610012180c2c38a1d func272
def Y2:aD E ⟨209,[.m gU,.v aE,.v aE,.v aE,.c 121 [(.ptr .df eU),(.ptr .df ml)]],[],CQ⟩:=aH (aj ZC aG) 0x280de8bcc5d160023ae9d546c4c2c0616c4d func209
def Yh:aD E ⟨120,[.m gU,.c 121 [(.ptr .df eU),(.ptr .df ml)]],[],CN⟩:=aH (aj OV (aj Y2 aG)) 0x1d func120
def aaq:aD E ⟨45,[.v (.ptr .bg (.st (.pr (.ptr .bg wd) (.pr gZ (.pr gZ (.pr (.a2 .bg c0) (.pr (.a2 .bg ml) (.pr aE .nil)))))))),.v eU],[F2],Cv⟩:=aH (aj Yh aG) 0x3762376f90e937bf32923b94339d468b45194bf042a6aeca05cb89bb7c97cd05c5c313825edf5c520f44146c996c0adc28cf289677f0dbf2c40a90f48ca0b26f2dda8d320e78181d004631001629b6d22ed9555bd5285a128b6fdd9008a6d7a8aeae178af1497a0a4f3de68d38a5e89276376da3803c6dd1f04123c57ca9f2bbac6ecf2bc22b839735be1e947febc823c6611e57409605c1d08d38e7250e960e829aaa5a950ffbd9448d5bb50806be1d68ab82a4ee0203ccbc94040ba624502865cb2608b5f5a5de5a9da44f79cc5b819e982928b8ded8f98ab1bee883a5a7ca1b0faea441d079e739b17af895fc886812c2b5815132107f3871b458be6862e42bf42a3ebf326fa3f72a76d1848a4860d3fd36a7b8d08063c94eaaf00489cb9e461ae33c99104ae30fa09759129a12140dd5ff3e986df9613916cc559ba9b060d func45
def aan:aD E ⟨42,[.v oR],[.bool],Cg⟩:=aH aG 0x15e0600d func42
def Ya:aD E ⟨114,[.v ku,.c 42 []],[aE],CK⟩:=aH (aj aan aG) 0x3195177853060d func114
def aam:aD E ⟨41,[.v ku,.c 42 []],[.bool],CI⟩:=aH (aj Ya aG) 0x60d func41
def OA:aD E ⟨11,[.v jA,.v eU,.v ku],[yy,aE],uv⟩:=aH (aj aaq (aj aap (aj aao (aj aaj (aj aah (aj aam aG)))))) 0x677b18c73febb7e95d3b3a249372fb147b80513e233de7947242663d62a9d1511677f54dd058830338ddf58631ab0e77fa81abeee61e96ff9fef94e969ce4734237e9a022aad77438a3798c955b70b7ad012710abc894d2d57d83ef20a4a736b399e524c1df77790bfd5214e2da6eacf9db5712774b5cd062716dba0c4f3b2303f0760772262bf96e2542fa40aeda6599088d058345ee658f9e21dda457264054b1da8a0b49c7d5448172907759c57a78536db6c2860d func11
def aaB:aD E ⟨63,[.v eU,.v aE],[.bool],Dp⟩:=aH aG 0xd89480d660c5e9f759579d61bf8532f9214db060d func63
def aaG:aD E ⟨94,[.v jA,.v eU],[aE],Dq⟩:=aH (aj aaB (aj Aq aG)) 0x2e28060d func94
def Yk:aD E ⟨124,[.v jA,.v eU],[n4],Do⟩:=aH (aj Pm (aj Pl (aj Pk aG))) 0x378986f0f07e161bc26e28060d func124
def Y3:aD E ⟨213,[.v ku,.v aE],[aE],zC⟩:=aH aG 0x9f3f85cf6b0c414853060d func213
def Yj:aD E ⟨123,[.v lw,.v ku],[aE],wX⟩:=aH (aj I4 (aj Y3 (aj OX (aj EB aG)))) 0x1e5ec134f82c41aa06e4c9878b2f2b25acc7a6ef8f99cc5911cfa735238c3174344edba94f5b3638490c0f4c8f2fd70998c9b289d0f0a6db060d func123
def aar:aD E ⟨46,[.v jA,.v eU,.v ku],[aE],Dn⟩:=aH (aj aaG (aj Yk (aj Yj aG))) 0xcffc00c7148536c2860d func46
def aaH:aD E ⟨95,[.v jA,.v eU,.v aE,.v aE],[cH],wZ⟩:=aH (aj aaJ (aj Au aG)) 0x346e480e2860d func95
def IS:aD E ⟨125,[.v eU,.v aE],[aE],q4⟩:=aH aG 0xc414853060d func125
def OI:aD E ⟨164,[.v cH,.v cH],[cZ,cZ,aE],sA⟩:=aH (aj tb (aj ED aG)) 0x5699f80d1eec097150bd924eb57b7e0810b977965f213bd417b6307c71a00e450883615928d97be4f301841b0d8c0fb737e2abf97673addc1efa06161f4793c1b95b1df7b488a0d4fff140f2e52b753060d func164
def Jc:aD E ⟨80,[.v cH,.v cH],[cH],sy⟩:=aH (aj vh (aj Ax (aj tc (aj OI (aj EC aG))))) 0x14352382663baf7b2d8d482bfbe52b0f77e648441a437650dbc569171ac7ba4ba5a353060d func80
def aas:aD E ⟨47,[.v jA,.v eU,.v ku,.v aE,.v (.a2 .df qH)],[(.st (.pr gZ (.pr aE qG)))],Dr⟩:=aH (aj aaH (aj Jc (aj IS aG))) 0x99cd41bd709549b1866c444fa10ba53722f023922cfd11d26e2975efeabd0717910112dbcaf4dee3ef3dbbf6052c008bc15e1a8441c2ebda7613f2c85cf188010512a4a9ca331e0762092122d889f9616663d9aeb4049682f25a3b92562e133620027dd15d954ce2d7bfea0e0b663cdd394a86788849af7bfede8fdbd7432dd9134a07e1b69e46d66f1f181f3abe0de8dd5d9b12acb4c52c67d3c1693b756ad1c467b793e67ce5863af4b4693b91f023c6c27b8980fff9fcb4ea881c783b5aa50fd33b98689712ae24356a946d613acaf9acc82d36b9bffb1e62b6f0f03ae424b4c0ed622d1a95c1a7234934232087608549f6f749d02b47ac3a131bf86526b03fdee6e4912baba8665d8a0e8c67d8c22779a2ff3ac8466e4185cf35c22dd76de884eeb3c4b549d31c4425ee01c9b7a4fe198b29e9b6a03c3f1adb5e2d34fb4a5142457c1b371e87b5abc1326e7529afabdd549a767002772a3a939e3ba48a957e3b664e8ec61819bcd9fdb21d9df616fd878c1c6c7a26ff16a5b9e0aed4fc7bdf283315d6c1f89a82d95cc3165e780b5a8a34194aa946ee42468b21fee6485a23532019f2ba57e62000cbb756741a71ce2a534df76b905d6b88cfe91ec8f4177fca82fd222f0a6c48e2860d func47
def OB:aD E ⟨130,[.v cH],[c0],uG⟩:=aH (aj Pq aG) 0x70600d func130
def Yl:aD E ⟨126,[.v qH,.v aE],[qJ,.bool],zH⟩:=aH (aj aaI (aj Av (aj Au (aj OB aG)))) 0x929a7639e5a093aee4cc4eb194843c29b060d func126
def ZI:aD E ⟨285,[.v cZ,.v cZ],[aE],CY⟩:=aH (aj tb (aj IT aG)) 0xb1d628060d func285
def Ze:aD E ⟨242,[.v cH,.v cH],[aE,.bool],C6⟩:=aH (aj tc (aj ZI (aj OI aG))) 0xa2dccca1eaab1a92bca6561ebc8434c7650dbc569171ac7ba4ba5a353060d func242
def OO:aD E ⟨175,[.v cH,.v cH],[.bool],zD⟩:=aH (aj Ze aG) 0xe1dc28060d func175
def Ym:aD E ⟨127,[.v (.a2 .df cH),.v aE],[cH,aE],w3⟩:=aH (aj OO aG) 0xde01aa5cd2d76243730cd4217f90efd50916f584b81ff6c3e2e7ead595aa920a5d148c39c6db26c64d92429b060d func127
def Zr:aD E ⟨26,[.v cH],[aE],Da⟩:=aH (aj tc (aj tb aG)) 0xd func26
def Zb:aD E ⟨228,[.v fK,.v fK],[lx],C4⟩:=aH aG 0x991f1c4b5d2359af0aa155ed3d69cd6217c51417e037f3380b4cead114a2c312d69c77118d0a65f2429b060d func228
def YD:aD E ⟨152,[.v cZ,.v cZ],[cZ],C1⟩:=aH (aj vg (aj Zb (aj s9 aG))) 0xe288c107e707dad256ecf62607a8de5b2b231883fd56f8c90554506d1a3ed3dbbe84c73753060d func152
def Aw:aD E ⟨68,[.v cH,.v cH],[cH],kb⟩:=aH (aj vh (aj Ax (aj tc (aj YD aG)))) 0x5bca1a1a1b6fd6b038bdec9319b6dca3b8a73546ea8e3770f3ce3386e406f7b2d8d449157e52b0f77e648441a437650dbc569171ac7ba4ba5a353060d func68
def Yn:aD E ⟨128,[.v cH,.v cH],[.bool],w4⟩:=aH (aj Pp (aj Aw (aj OO aG))) 0xe1dc28060d func128
def aat:aD E ⟨48,[.v qH],[gU,.bool],zG⟩:=aH (aj Aw (aj Zr (aj Yn (aj Ym (aj Yl aG))))) 0x286e015c5c76ab098089573c77d37811a1d0e2dcc683f91d4becfbf8bd0a3f7978854424fce3b6f599cde11bc5e2a86c5f323954db90809efe4c71c1eb0c35415e14c0d func48
def Yo:aD E ⟨129,[.v qH,.v eU],[(.st (.pr gU (.pr aE qG)))],Dt⟩:=aH (aj IS aG) 0x30e9270c35817776ee3d4738a67ab9e5cef4f35be948beb48badf56e73f86d946cccff1a26c1f61178f4d124523363f16d2851b8aa48c71a85ed1b600a40200c948ac777552baa8f6c2b87fdc74306fd4738a8fddda959f755ad4fa46e4523ce29b6997b64843c29b060d func129
def Y4:aD E ⟨215,[.v c0],[.bool],Dm⟩:=aH aG 0xd func215
def Z5:aD E ⟨327,[.m lx,.v fK,.v aE,.v c0],[.bool],zq⟩:=aH aG 0xf0a0adeb50e6ebf2ad86f23894c490c05e54378a0ea15fd25fdc59f62befaf164192b53d914ea3ec848c6fcc1d07e5ff17f3048ebc29b6c38a1d func327
def ZT:aD E ⟨310,[.v fK,.v fK],[lx,fK],C3⟩:=aH (aj Z5 (aj Pj (aj I5 (aj O2 (aj O1 (aj vg aG)))))) 0x8018533076f68138afa4468455caba646cb0ef5eb57135662362eb2973e27ddf662dc5ad777b9f30707300b87b4fc6760442541cfdcc841408b7aa4b0073435a117078a8d19db7a041ff764ab4512376632f717034e2f76916e989ab7f9572c12fd09144376ae61f132820e232fbfd66ce941ce999e183ebce750674382ea6db060d func310
def ZG:aD E ⟨283,[.v cZ,.v cZ],[cZ,cZ],CZ⟩:=aH (aj tb (aj ZT (aj s9 (aj At (aj IT (aj EE (aj As (aj EC aG)))))))) 0x30e09c6ce10f7629603d184fa07b598bb7eea1a2f7a71ee86ac9b72798e75c9567854fcc6cbe5057531e509956c92d833ce44cdb0cfcaeb9c2fe9f56e5ac9a0fe103d84f58ba6de0d646b9dc503b1eda889846cd2c3ca4648bc569171ac7ba4ba5a353060d func283
def ZS:aD E ⟨309,[.v cZ,.v cZ,.v aE],[cZ,aE,.bool],C9⟩:=aH (aj tb (aj ZG (aj IU (aj ED aG)))) 0x7e8da900057e38b6338b88ce4bab90dd5954f761c98bff470f1566ea6c2860d func309
def ZE:aD E ⟨281,[.v cH,.v cH,.v aE],[c0],De⟩:=aH (aj tc (aj tb (aj ZS (aj OP (aj At aG))))) 0x22cea627a5bc3cf8668f1ec726fb9550b02ba73d3b961a4833f32a792d67b8db2a141d202d2ede8d4c2860d func281
def Y5:aD E ⟨216,[.v cH,.v cH],[c0],wY⟩:=aH (aj ZE aG) 0xe1dc28060d func216
def aaE:aD E ⟨81,[.v cH],[cH],C8⟩:=aH (aj vh (aj tc (aj OJ aG))) 0x2771e6eff1011974c90a38b2ee992d3a3536c0d func81
def I9:aD E ⟨29,[.v cH,.v cH],[cH],uE⟩:=aH (aj aaE (aj Jc aG)) 0x47b452bee004bcf2b753060d func29
def YC:aD E ⟨151,[.v c0,.v c0],[cH],zE⟩:=aH (aj Aw (aj Au aG)) 0x648060d func151
def aaC:aD E ⟨65,[.v kt],[cH],zF⟩:=aH (aj I9 (aj YC aG)) 0x5ec6547812c55d1cccdd4c0d func65
def Yq:aD E ⟨131,[.v Br,.v qH,.v eU,.v aE],[(.osl c0)],uI⟩:=aH (aj Aw (aj aaC (aj I9 (aj Au (aj Y5 (aj Y4 aG)))))) 0x9359cbdc4041679b27a7b8e3a5e477c3e706aa3dc636352a2892be3ac84f784776a51e74d01df92ec712630c79c7aaf8fe27188cf11fbbf10cd2e9de355dd2c05c9e30e06c73502f869d4a16f8ba1a19a9c3143eb87085ee3fa24140a9f0323d691eb3090f3c666e8bd7cbaa909a8b3a40dfde2a85c83df4eda9664b9dec1afb1d4726300f89701337530e2860d func131
def Yr:aD E ⟨132,[.v Br,.v aE,.v aE],[cH],uH⟩:=aH (aj Jc (aj Aw (aj Au aG))) 0x16e4a95a6d5179be45717353de6e6cb27a789fe28f446daae977becb2f0bf4c9e393777be1e35d4834f0744a2221a5eacedbf9045e25d05c5bb2b118c022bb69d113757d8c4d659e7b5ed625fcd043398d10aa56a8ca84936e8c98a48e46cd89dc6fc01ecb50f9e28dde8030c8aea0190f77c35ae3bb0bb96acccdd4c2860d func132
def aau:aD E ⟨49,[.v qH,.v eU],[(.st (.pr gZ (.pr aE qG))),F1,.bool],w2⟩:=aH (aj I9 (aj Av (aj Yr (aj Yq (aj OB (aj Yo (aj IS aG))))))) 0x1faeda5578c63bf2ce499b7035ac67b129a8291b82076c2bf8bcd726c2abeea8d168e03562209936454c76fd0c1bb43ff6c1177dcfdd136b8fdd9c1f3284bb2e8bbab5e680705f5eb000b204a630dd2e0985688494bfc427e0c61aadebf8d721fafd8fa7025bc76f87da83c3a1fbed92a605da1c3373755841ffb0f15906cdca9c672ee9acacc34921dec58d67f7918f5bcc1efc8a0ea0812f2a91bce4c4562cd36da2f37d66a5a7274e43c5c6a71b90ccf2fd96aa6d322812cb2e1093546e10d4ff17997fb80ee6e6e56a8bf8eccdee75cdf13349b53e1acbd5c7cd5fdaea45f6861677acc06f367d386ef4a244a74359afd89b9444041fb45bd73902c0cf28f0499e4cb8eabf17257add45ea545e5374c4655e95f49dbc9cf2b2787d6b20cacb4deda272f1a72e5d04f43c62bc6cb24b27ccaae39318d7f9a801a4e9bc19d616ef25da6a3ecac18e9e7cbc7441085ad63d3ea4ffa6d6cd78c3bca2559b74cd6b0fea2572030688f4d48e6730692512844a6c0edbc3bd62b2c5ea896ca0e0e5edd686352b2a4a652ccf6c2db3841d59ed8437334f2c9252a5813916c65a3c3d83125ff49b060d func49
def aav:aD E ⟨50,[.v eU,.v (.a2 .df Br),.v aE],[FZ],Ds⟩:=aH aG 0x2baed8599d6aaea2c3d296b35625fc76031350393741c01449c7f1d904f9d34fc3feea03ad6914c95a023bbb35d537b8cc5e377ae078084c85bb5a559e444c92273d7a5f7a626c7bff5878d2bbf49561f23f7e5d86c74a7bc48211e39c3225f11377b28e873b1594846b50785bbbce5a4297cd4f4795550350e416fd2baae4466259609faa201ac40e20c634fc6de76e9bc72f9d4e88183d0b85641b34f02f4368aa3c034fc877bd175f26f94c5ae90fed073aae5aa1fcf13660a5818d2b56bfa75ff571a05fe21ad0050f1163e8fa9d846f86608eb0af3a89379e255581df4792c8b09f87a1c6d17bd91f21b284d3f9b1b2a30a726bf4bdd585aac507ede3426bdc0578f22a9b9a5bc985108872863c4f9d2516947190b026e417da9d3520f811fffea6eb023cc66e6d800e0fab9191c22fb94c5bd15c9ba3cbeedbf728e6eff761bb874e9744b646ef7a0c29ea13dee08786819a86e9f28939688ea80d24e0baefc779c621d65697c88df96dfc1190fbfb76b1a617e8a1192d064ce2be355c572508a13c046d2693f98553a24a786ef817d3361d9b057ae683f7c7169241c0cf658e13585cd7807c92264d9dad7d2932af6219df3a8af4631561bb08db6d644633625815c8f9cc1766770e1d5ca48536c2860d func50
def Yg:aD E ⟨12,[.v jA,.v eU,.v ku],[yy,aE],w1⟩:=aH (aj aav (aj aau (aj aat (aj aas (aj aar aG))))) 0xf2f1112d7c4eeba12535f2a4d350869664cf067e8ea4642a8df82efe32fffa6af373a2ec8f2394b0d2cc99d844b3e544a951d1ad88eebb83b1904644334816e531c5f08f2da780b353976b085aef0ac93197b296143cca8bdd23ad73a5039865dd3b875c1455d51d825cb5b5bde887769aed5c988f4fd669c82d27a0d8c047cf6e5216f0a6db6c2860d func12
def O6:aD E ⟨25,[.v eU,.v eU],[.bool],qX⟩:=aH aG 0x620a429b060d func25
def aax:aD E ⟨56,[.v kt,.v kt],[.bool],zl⟩:=aH aG 0x620a429b060d func56
def Yu:aD E ⟨14,[.v r9,.v r9],[.bool],CV⟩:=aH (aj aax (aj O6 aG)) 0xdc1c1b828060d func14
def aay:aD E ⟨57,[],[wa],L3⟩:=aH aG 0x1922242481f808 func57
def Yz:aD E ⟨145,[.v eU],[.bool],Cr⟩:=aH aG 0x6ba8406adebe0e457cfca803730dfab114c8ffaf0a6c0d func145
def aaF:aD E ⟨91,[.v r9],[gU,.bool],Cs⟩:=aH aG 0xc302d214835e59c33ecf5c889fdad5548253bbaa9e0008a59765fa168b78f7c6be4461eb658c806f73051e642149806e533302c922fe578536c0d func91
def YA:aD E ⟨146,[.v r9,.v eU],[.bool],Cj⟩:=aH aG 0xc64b41340b9ba1fa37e849f6b4d70853c93229cdd3c1682924e1bf1d173eab756259241effc1a8258147968f010a29b060d func146
def Pn:aD E ⟨60,[.v r9],[KS],y9⟩:=aH (aj p8 aG) 0xfa856eb86fb21de77a857001e286685c0e87254506c5130ed865cb76cff709115622d2991ff2578536c0d func60
def aaA:aD E ⟨59,[.v r9],[aE],Cf⟩:=aH (aj aaF (aj Jb (aj xK (aj Pn (aj vf (aj YA (aj Yz aG))))))) 0x628d0a0687afe1cf0c1d85dabb9570da4ab526cca7e92e48a0c96ff0de32fb7937b054bc8304f41a6c650aeee14c948776881bbe89f0904e1825ad7931391e9259175c244eb4043c805a6c0d func59
def YO:aD E ⟨19,[.v r9],[Bo,aE],Ch⟩:=aH (aj Jb (aj xK (aj Pn (aj aaA aG)))) 0x2aba805712e59fcc08b81856eaab863ff361f2eea02073e38eea9a6a2ebad14b6e33244aae45c3fa536f6693878536c0d func19
def YB:aD E ⟨15,[],[.bool],CX⟩:=aH (aj aay (aj O6 (aj YO (aj OA aG)))) 0x84c21c1c17818 func15
def vQ:jx:=⟨4,[.v kt,.v aE,.v aE,.v .bool],[.bool],G2⟩
def aai:aD E vQ:=aH (aj YH (aj YE (aj EF (aj YB (aj Yu (aj Yp (aj Yg (aj OA aG)))))))) 0x1560ec64c8b4e71a5b8d7c04722f50e9acccf1caf1da9988270c2fa88480fd5514adfeec4a0f522007a071173357820d9fe38d29fe5816a71dd016a7fbc32ce1cf4b15f1faa5bd5bf29e0aa9ae0f56b29ca8507f57dad0622ad674514fec996f70bfc1bcde62a123ebdca38bc35df7b441d212442dc13d46d224c663533cccf89715c2ff2e76ab1e012c7a3863cdd78ac8599526e8089ce451450593b3e6ba4bbf028c03b605c59f2586073bad6397ce72cbbd6bb66a9d6c702c7d13d0a2d0b7d94b1c47f85ef6dc2dcebcb8ec74f5cf7ca173b7e4d4ad97086bdb08daeff9b233ff7f311f3dc82bc29b6c38a0d func4
end
def aU (a:X):Z:=4294967296^a
def ag:ahZ->Z
 |[]=>0
 |x::a=>x+4294967296*ag a
def aQ (b:ahZ):Prop:=∀a∈b,0<=a/\a<4294967296
def aQ.nil:aQ []:=λ_ a=>by cases a
theorem aQ.cons:aQ (a::c)↔(0<=a/\a<4294967296)/\aQ c:=by
 constructor
 ·exactλe=>⟨e a (nb ..),λd b=>e d (hY _ b)⟩
 rintro⟨f,g⟩ d b;rcases fV.1 b with rfl|b
 ·exact f
 exact g d b
def aQ.append:aQ (c++f)↔aQ c/\aQ f:=by
 constructor
 ·exactλd=>⟨λb a=>d b (r1 _ a),λb a=>d b (lq _ a)⟩
 rintro⟨e,g⟩ b a;rcases hX.1 a with a|a
 ·exact e b a
 exact g b a
def aQ.snoc (b:aQ c) (d:0<=a) (e:a<4294967296):aQ (c++[a]):=
 aQ.append.2 ⟨b,aQ.cons.2 ⟨⟨d,e⟩,aQ.nil⟩⟩
def aQ.take {a:ahZ} (b:aQ a) (d:X):aQ (a.take d):=λe c=>b e (vY c)
def aQ.drop {a:ahZ} (b:aQ a) (d:X):aQ (a.drop d):=λe c=>b e (List.mem_of_mem_drop c)
theorem aQ.lQ (a:X):aQ (bJ a (0:Z)):=λc b=>by grind
def aQ.set {c:ahZ} (d:aQ c) {e:X} {b:Z} (g:0<=b) (h:b<4294967296):aQ (c.set e b):=λf a=>by
 rcases List.mem_or_eq_of_mem_set a with a|rfl
 ·exact d f a
 omega
def aQ.get (a:aQ c) {n:X} (b:n<c.length):0<=c[n]/\c[n]<4294967296:=a _ (cR b)
theorem fQ (a:X):0<aU a:=mM ab
theorem hV (a:X):aU (a+1)=4294967296*aU a:=by unfold aU;omega
theorem tD (a b:X):aU (a+b)=aU a*aU b:=lU ..
theorem ya:aU 0=1:=rfl
theorem md (a b:ahZ):ag (a++b)=ag a+aU a.length*ag b:=by
 induction a with
 |nil=>simp[ag,ya]
 |cons d a c=>
  grind [List.length_cons,hV,ag]
theorem qm (a:ahZ) (b:Z):ag (a++[b])=ag a+aU a.length*b:=by grind [md,ag]
theorem e8 {l:ahZ} (a:aQ l):0<=ag l:=by
 induction l with
 |nil=>exact ajH _
 |cons c l b=>
  grind [aQ.cons,ag]
theorem g5 (a:aQ c):ag c<aU c.length:=by
 induction c with
 |nil=>decide
 |cons d c b=>
  grind [List.length_cons,hV,aQ.cons,ag]
theorem it (a:b<c.length):ag (c.take (b+1))=ag (c.take b)+aU b*c[b]:=by grind [qm,aib,aji,ct,bS]
theorem oD (b:ahZ) (a:X) (c:a<=b.length):ag b=ag (b.take a)+aU a*ag (b.drop a):=by grind [md,aib,aji,ajw]
theorem mI (a:b<c.length):ag (c.drop b)=c[b]+4294967296*ag (c.drop (b+1)):=by rw[vV a];rfl
theorem pj (a:X):ag (bJ a (0:Z))=0:=by
 induction a with
 |zero=>rfl
 |succ a b=>grind [ag]
theorem mJ (d:b<c.length) (a:Z):ag (c.set b a)=ag c+aU b*(a-c[b]):=by
 induction c generalizing b with
 |nil=>grind
 |cons f c e=>
  grind [ya,hV,ag]
def uP:X->X->ahZ
 |0,_=>[]
 |f+1,a=>if a=0 then[] else((a %4294967296:X):Z)::uP f (a/4294967296)
def eQ (a:X):ahZ:=uP (Nat.log2 a+1) a
def e5 (b:ahZ):Prop:=∀a,b.getLast?=Y a->a≠0
theorem Uj:∀{a n:X},n<2^a->aQ (uP a n)/\ag (uP a n)=n/\e5 (uP a n):=by
 intro a
 induction a with
 |zero=>
  intro n b;obtain rfl:n=0:=aa;exact⟨aQ.nil,bn,λc b=>by cases b⟩
 |succ a i=>
  intro n b;unfold uP;split
  ·rename_i g;subst g;exact⟨aQ.nil,bn,λc b=>by cases b⟩
  rename_i k;obtain⟨h,j,d⟩:=i (n:=n/4294967296) aa;refine⟨aQ.cons.2 ⟨⟨aa,aa⟩,h⟩,?_,?_⟩
  ·grind [ag]
  intro c f;cases e:uP a (n/4294967296) with
  |nil=>
   grind [List.getLast?_singleton,ajd,ag]
  |cons m l=>
   rw[e,List.getLast?_cons_cons] at f;rw[e] at d;exact d c f
def Hl (a:X):aQ (eQ a)/\ag (eQ a)=a/\e5 (eQ a):=Uj Nat.lt_log2_self
theorem ob (a:X):aQ (eQ a):=(Hl a).1
theorem sF (a:X):ag (eQ a)=a:=(Hl a).2.1
def xa (a:X):e5 (eQ a):=(Hl a).2.2
theorem e5.tail (b:e5 (a::c)):e5 c:=λe d=>by
 cases c with
 |nil=>cases d
 |cons f c=>exact b e (by grind)
theorem e5.zero (e:aQ c) (b:e5 c) (d:ag c=0):c=[]:=by
 induction c with
 |nil=>rfl
 |cons h c g=>
  obtain⟨⟨i,j⟩,a⟩:=aQ.cons.1 e;have k:=e8 a;simp only[ag] at d;have f:h=0:=aa;have:=g a b.tail aa;subst this;subst f;exact absurd rfl (b 0 bn)
theorem e5.uniq:∀{a b:ahZ},aQ a->aQ b->e5 a->e5 b->ag a=ag b->a=b
 |[],b,_,e,_,g,c=>(e5.zero e g (by rw[<-c];rfl)).symm
 |a,[],d,_,f,_,c=>e5.zero d f (by rw[c];rfl)
 |x::a,j::b,d,e,f,g,c=>by obtain⟨⟨k,l⟩,h⟩:=aQ.cons.1 d;obtain⟨⟨m,n⟩,i⟩:=aQ.cons.1 e;simp only[ag] at c;have o:x=j:=aa;have:=e5.uniq h i f.tail g.tail aa;grind
def Um (a:aQ c) (d:e5 c) (e:ag c=b):c=eQ b:=
 e5.uniq a (ob b) d (xa b) (by rw[e,sF])
def e5.eq (a:aQ c) (b:e5 c):c=eQ (ag c).toNat:=
 Um a b (by have:=e8 a;omega)
theorem e5.low (b:aQ c) (f:e5 c) (a:c≠[]):aU (c.length-1)<=ag c:=by have d:=List.dropLast_concat_getLast a;have i:=f (c.getLast a) (List.getLast?_eq_some_getLast a);have j:=b _ (List.getLast_mem a);rw[<-d,qm];have k:=e8 (l:=c.dropLast) (λh g=>b h (List.dropLast_subset _ g));have e:1<=c.getLast a:=aa;have m:=jO e (fu (fQ c.dropLast.length));grind
theorem abm (d:b<e):aU b<aU e:=by obtain⟨a,rfl⟩:∃a,e=b+(a+1):=⟨e-b-1,aa⟩;rw[tD,hV];have f:=fQ a;have c:=fQ b;have g:1*aU b<(4294967296*aU a)*aU b:=rW aa c;grind
theorem pc {m n:X} (b:m<=n):aU m<=aU n:=by
 rcases cO m n with a|a
 ·exact fu (abm a)
 grind
theorem q7 {n k:X} (d:(n:Z)<aU k):(eQ n).length<=k:=by
 by_cases c:eQ n=[]
 ·grind
 have a:=e5.low (ob n) (xa n) c;rw[sF] at a;rcases cO k (eQ n).length with b|b
 ·have:=pc (m:=k) (n:=(eQ n).length-1) aa;omega
 omega
theorem Mr (a:X):(a:Z)<aU (eQ a).length:=by have:=g5 (ob a);grind [sF]
def Hm:eQ 0=[]:=rfl
theorem Ul:eQ b=[]↔b=0:=by
 constructor
 ·grind [sF,ag]
 rintro rfl;rfl
def ir (a:ahZ):ahZ:=eQ (ag a).toNat
theorem Q9 (f:aQ c) (j:b<=c.length) (h:∀a,b<=a->(i:a<c.length)->c[a]=0) (g:e5 (c.take b)):c.take b=ir c:=by have d:ag c=ag (c.take b):=(by have e:c.drop b=bJ (c.length-b) 0:=(by refine yl ac λa d e=>?_;grind);grind [oD,pj]);rw[ir,d];exact e5.eq (f.take b) g
def J6 (a:ahZ):aQ (ir a):=ob _
def Q8 (a:ahZ):e5 (ir a):=xa _
theorem J7 (a:aQ c):ag (ir c)=ag c:=by have:=e8 a;grind [sF,ir]
theorem Q7 (a:aQ c):(ir c).length<=c.length:=by have b:=g5 a;have:=e8 a;exact q7 aa
def Vv {b c:bm h} (f:b.length=c.length) (e:∀a,a<b.length->b[a]?=c[a]?):b=c:=by
 apply hM;intro a;rcases cO a b.length with d|d
 ·exact e a d
 rw[qz d,qz aa]
theorem FM (a c:ahZ) (o:a.length<4611686018427387904):qX (a,c,())=Y (a==c,()):=by
 rw[<-bQ];unfold qX;simp only[bZ,bX,bu];refine⟨λd=>?_,λd=>?_⟩
 ·simp at d;have:a≠c:=λf=>d (by rw[f]);simp[this]
 simp at d;have m:a.length=c.length:=aa;refine ae.for (i0:=0) a.length (λe _=>∀b,b<e->a[b]?=c[b]?) rfl ac (c8 _) ?_ ?_
 ·intro e n _ k g;simp only[bZ,bX,bu,ah5];refine⟨λ_=>⟨k,aa,λl=>?_,λj=>?_⟩,λh=>?_⟩
  ·simp at l;have:a≠c:=λf=>l (by simp[f]);simp[this]
  ·refine⟨iO aa,λb p=>?_⟩;rcases cO b e with i|i
   ·exact g b i
   obtain rfl:b=e:=aa;simp at j;rw[ba k,ba aa,j]
  simp at h;omega
 intro n g;simp only[bZ,bX,bu];refine⟨λh=>by simp at h,λ_=>?_⟩;simp[Vv m g]
theorem tr {a:bm h} (c:b<a.length):a.take b++[a[b]]=a.take (b+1):=by rw[hN,ba c];rfl
theorem Az:c.Pairwise (· < ·)↔∀d,(e:d+1<c.length)->c[d]<c[d+1]:=by
 constructor
 ·intro e d k;exact(h4.1 e) d (d+1) aa k aa
 intro e;rw[h4];have m:∀b a (f:a<c.length) (g:a+b+1<c.length),c[a]<c[a+b+1]:=by
  intro b
  induction b with
  |zero=>intro a f g;exact e a g
  |succ b l=>
   intro a f g;have i:=l a f aa;have j:=e (a+b+1) aa;exact amC i j
 intro a h f g n;obtain⟨b,rfl⟩:∃b,h=a+b+1:=⟨h-a-1,aa⟩;exact m b a f g
def Kt (b:ahZ) (r:b.length<4611686018427387904):zk (b,())=Y (br (b.Pairwise (· < ·)),()):=by
 rw[<-bQ];unfold zk;simp only[bX];by_cases k:b.length=0
 ·have:b=[]:=alE.1 k;subst this;refine aik (λo=>o=(1,())) (λ_=>0) rfl ?_;rintro _ rfl;simp[bu]
 refine ae.for (i0:=1) b.length (λc _=>∀a,(j:a+1<b.length)->a+1<c->b[a]<b[a+1]) rfl (λa _ j=>by omega) aa ?_ ?_
 ·rintro c _ p l e;simp only[bZ,bX,bu,ah5];have i:bK.wrap ((c:Z)-1)=((c-1:X):Z):=(by rw[cr aa aa];omega);rw[i];refine⟨λ_=>⟨l,?_⟩,λf=>?_⟩
  ·rw[ah5];refine⟨aa,?_⟩;refine⟨λm=>?_,λh=>⟨iO aa,λa d q=>?_⟩⟩
   ·have:¬b.Pairwise (· < ·):=λn=>by
     have:=Az.1 n (c-1) aa;simp only[(aa:c-1+1=c)] at this;simp at m;omega
    simp[this]
   rcases cO (a+1) c with g|g
   ·exact e a d g
   obtain rfl:c=a+1:=aa;simp at h;exact h
  simp at f;omega
 intro s e;simp only[bZ,bX,bu];refine⟨λf=>by simp at f,λ_=>?_⟩;have:b.Pairwise (· < ·):=Az.2 (λa d=>e a d d);simp[this]
theorem fg (b:bm h) (a:X):ao b (a:Z)=b[a]?:=by unfold ao;simp
section
def qp (a:ahZ) (c:Z):Prop:=a.Pairwise (· < ·)/\∀b∈a,0<=b/\b<c
theorem ae.count {g:h->bv (h⊕o)} {f:o->Prop} (d:h->Z) (c:X) (e:X->h->Prop) {i0:X} {j:h} (q:d j=(i0:Z)) (p:e i0 j) (l:i0<=c) (s:∀a b,i0<=a->a<c->d b=(a:Z)->e a b->ae (g b) (λ|.inl m=>d m=((a+1:X):Z)/\e (a+1) m|.inr i=>f i)) (u:∀b,d b=(c:Z)->e c b->ae (g b) (λ|.inl _=>b6|.inr i=>f i)):ae (jf.loop g j) f:=by
 refine aik (λb=>∃a:X,i0<=a/\a<=c/\d b=(a:Z)/\e a b) (λb=>c-(d b).toNat) ⟨i0,bc _,l,q,p⟩ ?_;rintro b ⟨a,r,l,n,t⟩;rcases cO a c with k|k
 ·refine(s a b r k n t).mono ?_;grind
 grind [mono]
open Classical in
theorem SU (b:ahZ) (d:Z) (u:b.length<4611686018427387904):B3 (b,d,())=Y (br (qp b d),()):=by
 rw[<-bQ];unfold B3;simp only[bX];refine ae.count (λi=>i.2.1) b.length (λa i=>i.1=(if a=0 then-1 else b.getD (a-1) 0)/\(b.take a).Pairwise (· < ·)/\∀e∈b.take a,0<=e/\e<d) (i0:=0) rfl ⟨bn,ac,ac⟩ (c8 _) ?_ ?_
 ·rintro a ⟨h,x,_⟩ _ n j ⟨f,r,m⟩;simp only at j f;subst j;simp only[bZ,bX,bu,ah5];have v:∀e∈b.take a,e<=h:=by
   intro e q;rw[f];obtain⟨y,p,rfl⟩:=ht.1 q;simp only[fU] at p;have o:a≠0:=aa;rw[ax o];grind [ah1,cl,bS]
  have w:-1<=h:=by
   rw[f];by_cases g:a=0
   ·omega
   rw[ax g];simp only[aiJ,ba (aa:a-1<b.length),r5];have:=m (b[a-1]) (ht.2 ⟨a-1,by grind,ac⟩);omega
  have s:(b[a]<=h\/d<=b[a])->¬qp b d:=by
   rintro c ⟨z,A⟩;rcases c with c|c
   ·rw[f] at c;by_cases g:a=0
    ·grind
    rw[ax g] at c;grind [ah1,bS]
   grind [b7]
  refine⟨λ_=>⟨n,λk=>⟨λl=>?_,λl=>?_⟩,λk=>?_⟩,λt=>by grind⟩
  ·grind
  ·simp at k l;refine⟨iO aa,?_,?_,?_⟩
   ·grind
   ·grind [ah4,tr]
   grind [tr,ah4]
  grind
 simp_all [bZ,bu,hO,qp]
theorem KE (a b:Z):um (a,b,())=Y (br (a<b),()):=by grind [um,sn]
theorem Km (a:Z) (b:0<=a) (c:a<18446744073709551616):bC.wrap a=a:=by unfold ajF;rw[ax (by simp[amD])];show a %18446744073709551616=a;omega
theorem Kv (b:ahZ) (e:Z) (B:b.length<4611686018427387904) (D:b.Pairwise (· < ·)):ae (uy (b,e,())) (λv=>v.2.1=br (e∈b)):=by
 unfold uy;simp only[bX];refine cy (P:=λu=>∃a:X,u.1=(a:Z)/\a<=b.length/\(∀c,(f:c<b.length)->c<a->b[c]<e)/\(∀c,(f:c<b.length)->a<=c->e<=b[c])) ?_ ?_
 ·refine aik (λg=>∃a d:X,g.1=(a:Z)/\g.2.1=(d:Z)/\a<=d/\d<=b.length/\(∀c,(f:c<b.length)->c<a->b[c]<e)/\(∀c,(f:c<b.length)->d<=c->e<=b[c])) (λg=>(g.2.1-g.1).toNat) ⟨0,b.length,bn,bn,c8 _,bc _,λc _ f=>by omega,λc j h=>by omega⟩ ?_;rintro⟨t,E,_⟩ ⟨a,d,rfl,rfl,A,o,j,h⟩;simp only[bZ,bX,bu];refine⟨λi=>?_,λn=>?_⟩
  ·have i:a<d:=(by grind);have aq:bK.wrap ((a:Z)+d)=(a:Z)+d:=cr aa aa;rw[aq,Km _ aa aa];have s:eJ bC ((a:Z)+d) 1=Y (((a+d)/2:X):Z):=by
    unfold eJ;rw[au aa];congr 1;show((a:Z)+d).fdiv (2^min 1 64)=_;grind
   rw[s];simp only[bu];have m:bK.wrap (((a+d)/2:X):Z)=(((a+d)/2:X):Z):=cr aa aa;rw[m,ah5];refine⟨aa,?_⟩;rw[KE];simp only[bu,bZ];have y:(a+d)/2<b.length:=aa;refine⟨λk=>?_,λk=>?_⟩
   ·have k:b[(a+d)/2]<e:=(by grind);rw[iO aa];refine⟨⟨(a+d)/2+1,d,bn,bn,aa,o,λc l p=>?_,h⟩,aa⟩;grind [amC,ah1,cl]
   have k:e<=b[(a+d)/2]:=(by grind);refine⟨⟨a,(a+d)/2,bn,bn,aa,aa,j,λc l p=>?_⟩,aa⟩;grind [ah1,cl]
  grind
 rintro⟨t,_⟩ ⟨a,rfl,z,j,h⟩;simp only;have C:(∀f:a<b.length,b[a]≠e)->e∉b:=by
  intro r q;obtain⟨c,l,rfl⟩:=ht.1 q;rcases r4 c a with f|f|f
  ·grind
  ·grind
  have w:=h a aa (bc _);grind [ah1]
 simp only[bZ,bX,bu,ah5];refine⟨λi=>?_,λn=>?_⟩
 ·have i:a<b.length:=(by grind);refine⟨i,λr=>?_,λx=>?_⟩
  ·grind [bu,CP]
  grind
 grind
structure fk (mS:ew):Prop where
 asc:∀v,(h:v<mS.length)->qp mS[v] mS.length
 Nk:∀v,(h:v<mS.length)->(v:Z)∉mS[v]
 sym:∀v,(h:v<mS.length)->∀w:X,(hw:w<mS.length)->(w:Z)∈mS[v]->(v:Z)∈mS[w]
open Classical in
def iy (a:ew):Z:=if 200<a.length then 6 else if fk a then 0 else 1
open Classical in
theorem H3 (a:ew) (b:X) (c:Z) (f:b<a.length) (d:a[b].length<4611686018427387904) (e:a[b].Pairwise (· < ·)):wH ((a,()),(b:Z),c,())=Y (br (c∈a[b]),()):=by rw[<-bQ];grind [bu,Kv,bX,ah5,wH]
theorem FH (a:ew) (p:∀z∈a,z.length<4611686018427387904):yY ((a,()),())=Y (iy a,()):=by
 classical
 rw[<-bQ];unfold yY;simp only[bZ,bX,bu];refine⟨λi=>?_,λi=>?_⟩
 ·grind [iy]
 have G:¬200<a.length:=(by grind);have C:¬fk a->(1:Z)=iy a:=λi=>(by grind [iy]);refine cy (P:=λh=>(h=.inr (1,())/\¬fk a)\/(h=.inl ()/\∀d,(i:d<a.length)->qp a[d] a.length/\(d:Z)∉a[d])) ?_ ?_
 ·refine ae.for (i0:=0) a.length (λc _=>∀d,d<c->(i:d<a.length)->qp a[d] a.length/\(d:Z)∉a[d]) rfl (λd l=>by omega) (c8 _) ?_ ?_
  ·rintro c _ _ g t;simp only[bZ,bX,bu,ah5];refine⟨λ_=>⟨g,?_⟩,λr=>by grind⟩;rw[SU _ _ (p _ (cR g))];simp only[bu];refine⟨λq=>?_,λq=>.inl ⟨trivial,λf=>?_⟩⟩
   ·have q:qp a[c] a.length:=(by grind);rw[H3 a c c g (p _ (cR g)) q.1];simp only[bu,bZ];refine⟨λx=>.inl ⟨trivial,λf=>f.Nk c g (by grind)⟩,λx=>⟨iO aa,λd l D=>?_⟩⟩;grind
   have:=f.asc c g;grind
  simp_all [bZ,bu,trivial]
 rintro h (⟨rfl,f⟩|⟨rfl,o⟩)
 ·grind [bu]
 simp only[bX];have J:(∀e,(i:e<a.length)->∀k∈a[e],∀b:X,k=(b:Z)->(j:b<a.length)->(e:Z)∈a[b])->fk a:=λi=>⟨λe f=>(o e f).1,λe f=>(o e f).2,λe f b j s=>i e f b s b bn j⟩;refine cy (P:=λh=>(h=.inr (1,())/\¬fk a)\/(h=.inl ()/\∀e,(i:e<a.length)->∀k∈a[e],∀b:X,k=(b:Z)->(j:b<a.length)->(e:Z)∈a[b])) ?_ ?_
 ·refine ae.for (i0:=0) a.length (λc _=>∀e,e<c->(i:e<a.length)->∀k∈a[e],∀b:X,k=(b:Z)->(j:b<a.length)->(e:Z)∈a[b]) rfl (λd l=>by omega) (c8 _) ?_ ?_
  ·rintro c _ _ g t;simp only[bZ,bX,ah5];refine⟨λ_=>⟨g,?_⟩,λr=>by grind⟩;have E:=p _ (cR g);refine cy (P:=λh=>(h=.inr (.inr (.inr (1,())))/\¬fk a)\/(h=.inl ()/\∀k∈a[c],∀b:X,k=(b:Z)->(j:b<a.length)->(c:Z)∈a[b])) ?_ ?_
   ·refine ae.for (i0:=0) a[c].length (λd _=>∀m,m<d->(i:m<a[c].length)->∀b:X,a[c][m]=(b:Z)->(j:b<a.length)->(c:Z)∈a[b]) rfl (λd l=>by omega) (c8 _) ?_ ?_
    ·rintro d _ _ l v;simp only[bZ,bX,ah5];refine⟨λ_=>⟨l,?_⟩,λr=>by grind⟩;have I:=(o c g).1.2 _ (cR l);obtain⟨b,j⟩:∃b:X,a[c][d]=(b:Z):=⟨a[c][d].toNat,aa⟩;have n:b<a.length:=aa;rw[j,H3 a b c n (p _ (cR n)) (o b n).1.1];simp only[bu,bZ];refine⟨λH=>.inl ⟨trivial,λf=>?_⟩,λM=>⟨iO aa,λm s F B K L=>?_⟩⟩
     ·have:=f.sym c g b n (j▸cR l);grind
     rcases cO m d with u|u
     ·grind
     obtain rfl:m=d:=aa;have:B=b:=aa;grind
    intro A v;simp only[bZ,bu];refine⟨λr=>by grind,λ_=>.inr ⟨trivial,λk y b j n=>?_⟩⟩;obtain⟨m,s,rfl⟩:=ht.1 y;grind
   rintro h (⟨rfl,f⟩|⟨rfl,w⟩)
   ·simp_all [trivial,bu]
   grind [bu,iO,cl]
  intro A t;simp only[bZ,bu];grind
 rintro h (⟨rfl,f⟩|⟨rfl,w⟩)
 ·grind [bu]
 grind [bu,iy]
end
section
inductive qN (A:X->X->Prop) (k:X):X->X->Prop
 |one {i j:X}:A i j->qN A k i j
 |step {i m j:X}:A i m->m<k->qN A k m j->qN A k i j
section
variable {A:X->X->Prop} {k:X}
end
end
section
def jS (A:ew) (a b:X):Prop:=∃c:a<A.length,(b:Z)∈A[a]
def jS.lt {A:ew} (f:fk A) (a:jS A b e):b<A.length/\e<A.length:=by obtain⟨c,d⟩:=a;have:=(f.asc b c).2 _ d;omega
def jS.symm {A:ew} (e:fk A):∀a b,jS A a b->jS A b a:=λa b c=>by obtain⟨f,d⟩:=c.lt e;exact⟨d,e.sym a f b d c.2⟩
def jS.ne {A:ew} (d:fk A) (a:jS A b e):b≠e:=λc=>by subst c;exact d.Nk b a.1 a.2
def qN.lt {A:ew} (b:fk A) {e c j:X} (a:qN (jS A) e c j):c<A.length/\j<A.length:=by
 induction a with
 |one a=>exact a.lt b
 |step a _ _ d=>exact⟨(a.lt b).1,d.2⟩
inductive Bu (R:X->X->Prop):X->X->Prop
 |refl (u:X):Bu R u u
 |step {u p v:X}:R u p->Bu R p v->Bu R u v
section
variable (A:ew)
variable {A} {j:X} {T:X->Prop} {par B:ahZ}
end
end
section
def yh (c:ew) (a b:X):Prop:=b=a\/(a<b/\qN (jS c) a a b)
open Classical in
def ui (c:ew) (b d:X):ahZ:=((bI d).filter λa=>br (b<=a/\yh c b a)).map λ(a:X)=>(a:Z)
def g1 (a:ew) (b:X):ahZ:=ui a b a.length
def yh.le (a:yh q e b):e<=b:=by rcases a with a|a<;>omega
def u9:(b:Z)∈g1 q e↔b<q.length/\yh q e b:=by
 unfold g1 ui;simp only[eY,hq,ig,aip];constructor
 ·rintro⟨d,⟨c,a⟩,f⟩;have:d=b:=aa;subst this;exact⟨c,a.2⟩
 exactλ⟨c,a⟩=>⟨b,⟨c,a.le,a⟩,bn⟩
def JP (c:X->bA) (b:X):(((bI b).filter c).map λ(a:X)=>(a:Z)).Pairwise (· < ·):=by rw[oK];refine anC _ ?_;exact List.pairwise_lt_range.imp (λd=>by omega)
def LX (a:ew) (b:X):(g1 a b).Pairwise (· < ·):=JP _ _
def TD (b:ew) (c a:X):(ui b c a).length<=a:=by unfold ui;rw[ff];exact eD (kR _ _) ac
end
theorem Bf (a:ahZ) (b:Z) (h:a.length<4611686018427387904):sv (a,b,())=Y (br (b∈a),()):=by
 rw[<-bQ];unfold sv;simp only[bX];refine ae.for (i0:=0) a.length (λc _=>b∉a.take c) rfl ac (c8 _) ?_ ?_
 ·rintro c _ _ d e;simp only[bZ,bX,bu,ah5];refine⟨λ_=>⟨d,λf=>?_,λi=>⟨iO aa,?_⟩⟩,λg=>by grind⟩
  ·grind
  grind [tr,ah4]
 simp_all [bZ,bu,hO]
def Rv (a:Z):bC.wrap a=a %18446744073709551616:=by unfold ajF;rw[ax (by simp[amD])];rfl
def hx (a:eu) (b c:X):bA:=(a.getD b []).getD c bq
def mA (c:eu) (b d:X):ahZ:=((bI d).filter λa=>b !=a&&(hx c b a||hx c a b)).map λ(a:X)=>(a:Z)
def jI (a:eu):ew:=(bI a.length).map λb=>mA a b a.length
theorem NK (b:eu) (c a:X):(mA b c a).length<=a:=by grind [cz,air,cm,mA]
theorem NL (c:eu) (b a:X):mA c b (a+1)=mA c b a++(if(b !=a&&(hx c b a||hx c a b))=bp then[(a:Z)] else[]):=by unfold mA;rw[i5,px,jh];grind
theorem wo {a:eu} (c:b<a.length) (d:e<a[b].length):hx a b e=a[b][e]:=by grind [aiJ,hx]
theorem Kz (a:eu) (p:∀k∈a,k.length=a.length) (y:a.length<=4294967296):zw (a,())=Y ((jI a,()),()):=by
 rw[<-bQ];unfold zw;have v:hB=4294967296:=rfl;simp only[bX];refine cy (P:=λd=>d.2.1.1=jI a) ?_ ?_
 ·refine ae.for (i0:=0) a.length (λc l=>l.2.1.1=(bI c).map λc=>mA a c a.length) rfl rfl (c8 _) ?_ ?_
  ·rintro c ⟨l,h,_⟩ _ i g;simp only at g;simp only[bZ,bX,bu];refine⟨λ_=>?_,λm=>by grind⟩;refine cy (P:=λd=>d.2.1=h/\d.2.2.1=mA a c a.length) ?_ ?_
   ·refine ae.for (i0:=0) a.length (λe d=>d.2.1=h/\d.2.2.1=mA a c e) rfl ⟨bn,bn⟩ (c8 _) ?_ ?_
    ·rintro e ⟨s,q,k,_⟩ _ j ⟨n,o⟩;simp only at o n;subst n;have t:=p _ (cR i);have u:=p _ (cR j);simp only[bZ (b:=decide _),bX (x:=bB _ _)];refine⟨λ_=>?_,λm=>by grind⟩;rw[bX];refine cy (P:=λd=>d=((c !=e&&(hx a c e||hx a e c)),s,q,k,())) ?_ ?_
     ·simp only[bZ,bX,bu,ah5];rw[wo i aa,wo j aa];refine⟨λf=>⟨i,aa,λr=>⟨j,aa,?_⟩,λr=>?_⟩,λf=>?_⟩
      ·have f:c≠e:=(by grind);grind
      ·have f:c≠e:=(by grind);grind
      grind
     rintro d rfl;have w:=NK a c e;simp only[bZ,bX,bu,ae.xv];refine⟨λf=>⟨by grind,iO aa,trivial,?_⟩,λf=>⟨iO aa,trivial,?_⟩⟩
     ·rw[NL,au f,o]
     simp_all [NL,ax,mN]
    simp_all [bZ,bu,trivial]
   grind [bX,bu,ae.xv,iO,ais]
  rintro⟨l,h,_⟩ g;simp only at g;simp only[bZ,bu];exact⟨λm=>by grind,λ_=>g⟩
 grind [bu]
theorem NZ {a:eu}:(b:Z)∈mA a e l↔b<l/\e≠b/\(hx a e b||hx a b e)=bp:=by unfold mA;grind
theorem HG (b:eu):fk (jI b):=by
 have e:(jI b).length=b.length:=(by simp[jI]);have d:∀a,(c:a<(jI b).length)->(jI b)[a]=mA b a b.length:=λa c=>(by simp[jI]);refine⟨λa c=>?_,λa c=>?_,λa c i h g=>?_⟩
 ·rw[d a c,e];refine⟨JP _ _,λj f=>?_⟩;unfold mA at f;grind
 ·grind [NZ]
 grind [NZ,Bool.or_comm]
def Vi (a:eu):(jI a).length=a.length:=by simp[jI]
theorem Vj (b:eu):∀a∈jI b,a.length<=b.length:=by intro a c;unfold jI at c;grind [NK]
def TE (r:fk q) (s:b<q.length):∃f,g1 q b=(b:Z)::f/\(∀c∈f,∃a:X,c=(a:Z)/\b<a/\a<q.length/\qN (jS q) b b a)/\(∀a:X,b<a->qN (jS q) b b a->(a:Z)∈f)/\f.Pairwise (· < ·):=by
 have k:(b:Z)∈g1 q b:=u9.2 ⟨s,.inl bn⟩;have h:=LX q b;have i:∀c∈g1 q b,∃a:X,c=(a:Z)/\a<q.length/\yh q b a:=(by intro c e;have t:=e;unfold g1 ui at e;simp only[eY] at e;obtain⟨a,_,rfl⟩:=e;exact⟨a,bn,u9.1 t⟩);generalize p:g1 q b=n at k h i;cases n with
 |nil=>cases k
 |cons c f=>
  rw[mQ] at h;have e:c=(b:Z):=by
   obtain⟨a,rfl,_,j⟩:=i c (nb ..);have:=j.le;rcases fV.1 k with d|d
   ·exact d.symm
   have:=h.1 _ d;omega
  subst e;refine⟨f,bn,λu m=>?_,λa j l=>?_,h.2⟩
  ·obtain⟨a,rfl,o,g⟩:=i u (hY _ m);have:=h.1 _ m;rcases g with g|g
   ·omega
   exact⟨a,bn,g.1,o,g.2⟩
  have:(a:Z)∈g1 q b:=u9.2 ⟨(l.lt r).2,.inr ⟨j,l⟩⟩;rw[p] at this;rcases fV.1 this with d|d
  ·omega
  exact d
theorem gN {a:bm h} {i:X} {b:h} (c:a[i]?=Y b):ao a (i:Z)=Y b:=by unfold ao;rw[au aa,fC,c]
theorem F8 (b:ew):fk b↔∀a,(f:a<b.length)->b[a].Pairwise (· < ·)/\∀c,(e:c<b[a].length)->(0<=b[a][c]/\b[a][c]<b.length)/\b[a][c]≠(a:Z)/\(a:Z)∈b.getD (b[a][c]).toNat []:=by
 constructor
 ·rintro⟨g,j,k⟩ a d;refine⟨(g a d).1,λc e=>?_⟩;have l:=(g a d).2 _ (cR e);grind
 intro f;refine⟨λa d=>⟨(f a d).1,λp n=>?_⟩,λa d h=>?_,λa d o m h=>?_⟩
 ·grind [aiS]
 ·grind [aiS]
 obtain⟨c,e,i⟩:=ht.1 h;grind [aiA,bS]
theorem AN (a:ew) (s:∀B∈a,B.length<4611686018427387904):uF ((a,()),())=Y (iy a,()):=by
 classical
 rw[<-bQ];unfold uF;simp only[bZ,bu,bX];refine⟨λd=>?_,λd=>?_⟩
 ·grind [iy]
 have E:¬200<a.length:=(by grind);refine cy (P:=λg=>(g=.inl ()/\fk a)\/(g=.inr (1,())/\¬fk a)) ?_ ?_
 rotate_left
 ·rintro _ (⟨rfl,e⟩|⟨rfl,e⟩)
  ·grind [bu,iy]
  grind [bu,iy]
 refine ae.for (i0:=0) a.length (λn _=>∀b,(d:b<a.length)->b<n->a[b].Pairwise (· < ·)/\∀c,(f:c<a[b].length)->(0<=a[b][c]/\a[b][c]<a.length)/\a[b][c]≠(b:Z)/\(b:Z)∈a.getD (a[b][c]).toNat []) rfl (λb _ d=>by omega) (c8 _) ?_ ?_
 ·rintro b _ _ e i;have A:=s _ (cR e);simp only[bZ,bu,bX,ah5];refine⟨λ_=>⟨e,?_⟩,λh=>by grind⟩;rw[Kt _ A];simp only[bu];refine⟨λl=>.inr ⟨trivial,λk=>?_⟩,λl=>?_⟩
  ·have:=(k.asc b e).1;grind
  have l:a[b].Pairwise (· < ·):=(by grind);refine cy (P:=λg=>(g=.inl ()/\∀c,(f:c<a[b].length)->(0<=a[b][c]/\a[b][c]<a.length)/\a[b][c]≠(b:Z)/\(b:Z)∈a.getD (a[b][c]).toNat [])\/(g=.inr (.inr (.inr (1,())))/\¬fk a)) ?_ ?_
  rotate_left
  ·rintro _ (⟨rfl,t⟩|⟨rfl,t⟩)
   ·simp only[bu];refine⟨iO aa,λp z G=>?_⟩;rcases cO p b with d|d
    ·exact i p z d
    obtain rfl:p=b:=aa;exact⟨l,t⟩
   simp_all [bu,trivial]
  refine ae.for (i0:=0) a[b].length (λn _=>∀c,(f:c<a[b].length)->c<n->(0<=a[b][c]/\a[b][c]<a.length)/\a[b][c]≠(b:Z)/\(b:Z)∈a.getD (a[b][c]).toNat []) rfl (λb _ d=>by omega) (c8 _) ?_ ?_
  ·rintro c _ _ f j;have m:¬((0<=a[b][c]/\a[b][c]<a.length)/\a[b][c]≠(b:Z)/\(b:Z)∈a.getD (a[b][c]).toNat [])->¬fk a:=λd k=>d (((F8 a).1 k b e).2 c f);simp only[bZ,bu,bX,ah5];refine⟨e,λ_=>⟨e,f,λq=>⟨λr=>⟨λu=>?_,λu=>?_⟩,λr=>?_⟩,λq=>?_⟩,λh=>by simp_all⟩
   ·have y:0<=a[b][c]/\a[b][c]<(a.length:Z):=(by simp_all);have F:a[b][c]≠(b:Z):=(by simp_all);rw[ae.MX];refine⟨aa,y.1,?_⟩;rw[Bf _ _ (s _ (cR _))];have C:a.getD (a[b][c]).toNat []=a[(a[b][c]).toNat]'(by omega):=by
     simp_all
    simp only[bu];refine⟨λv=>.inr ⟨trivial,m ?_⟩,λv=>⟨iO aa,λo x D=>?_⟩⟩
    ·simp_all
    rcases cO o c with d|d
    ·exact j o x d
    obtain rfl:o=c:=aa;simp_all
   ·simp_all
   ·refine .inr ⟨trivial,m (λw=>?_)⟩;simp at r;omega
   refine .inr ⟨trivial,m (λw=>?_)⟩;simp at q;omega
  rintro _ j;simp only[bZ,bu,bX,ah5];exact⟨e,λh=>by simp at h,λ_=>.inl ⟨trivial,λc f=>j c f f⟩⟩
 rintro _ i;simp only[bZ,bu];exact⟨λh=>by grind,λ_=>.inl ⟨trivial,(F8 a).2 λb e=>i b e e⟩⟩
theorem R3 (a:ahZ) (c:Z) (q:a.length<4611686018427387904):Di (a,c,())=Y (br (∀b∈a,0<=b/\b<c),()):=by
 rw[<-bQ];unfold Di;simp only[bX];refine cy (P:=λi=>(i=.inl ()/\∀b∈a,0<=b/\b<c)\/(i=.inr (bq,())/\¬∀b∈a,0<=b/\b<c)) ?_ ?_
 ·refine ae.for (i0:=0) a.length (λf _=>∀d,(e:d<a.length)->d<f->0<=a[d]/\a[d]<c) rfl (λd _ e=>by omega) (c8 _) ?_ ?_
  ·rintro f _ _ g l;have h:¬(0<=a[f]/\a[f]<c)->¬∀b∈a,0<=b/\b<c:=λe n=>e (n _ (cR g));simp only[bZ,bX,bu,ah5];refine⟨λ_=>⟨g,λj=>⟨g,λk=>.inr ⟨trivial,h (λe=>?_)⟩,λk=>⟨iO aa,λd o p=>?_⟩⟩,λj=>.inr ⟨trivial,h (λe=>?_)⟩⟩,λm=>by grind⟩
   ·grind
   ·grind
   grind
  rintro _ l;simp only[bZ,bu];refine⟨λm=>by grind,λ_=>.inl ⟨trivial,λb r=>?_⟩⟩;grind [aiS]
 grind [bu,ah3,aiy]
theorem Om:c.Nodup↔∀a,(b:a<c.length)->c[a]∉c.take a:=by grind [aiS,aib,ah1]
theorem Sb (a:ahZ) (m:a.length<4611686018427387904):Dj (a,())=Y (br (¬a.Nodup),()):=by
 rw[<-bQ];unfold Dj;simp only[bX];refine cy (P:=λe=>(e=.inl ()/\a.Nodup)\/(e=.inr (bp,())/\¬a.Nodup)) ?_ ?_
 ·refine ae.for (i0:=0) a.length (λc _=>∀b,(d:b<a.length)->b<c->a[b]∉a.take b) rfl (λb _ d=>by omega) (c8 _) ?_ ?_
  ·rintro c _ _ g h;have aq:gv (c:Z)=Y c:=(by simp_all [au,fC,gv]);have f:g9 0 c a.length=Y ():=(by grind [g9]);simp only[bZ,bX,bu,ah5,aq,f,aC,i9,lV];refine⟨λ_=>⟨g,?_⟩,λj=>by grind⟩;rw[Bf _ _ (by grind)];simp only[bu];refine⟨λd=>.inr ⟨trivial,λi=>?_⟩,λd=>⟨iO aa,λb k l=>?_⟩⟩
   ·simp_all [Om,of_decide_eq_true]
   grind
  simp_all [bZ,bu,trivial,Om]
 grind [bu,aiy,ah3]
def oA (a:ew):eu:=(bI a.length).map λb=>(bI a.length).map λ(c:X)=>br ((c:Z)∈a.getD b [])
theorem JZ (a:ew):(oA a).length=a.length:=by simp[oA]
theorem Q0 (a:b<q.length):(oA q)[b]?=Y ((bI q.length).map λ(c:X)=>br ((c:Z)∈q[b])):=by simp[oA,a,aiJ]
theorem KN (o:∀v∈q,v.length<4611686018427387904) (y:q.length<=200) (r:∀a,(f:a<q.length)->∀n∈q[a],0<=n/\n<(q.length:Z)):zx ((q,()),())=Y (oA q,()):=by
 rw[<-bQ];unfold zx;have x:hB=4294967296:=rfl;simp only[bX];refine cy (P:=λd=>d.1=oA q) ?_ (by grind [bu]);refine ae.for (i0:=0) q.length (λu e=>e.1=(oA q).take u) rfl ac (c8 _) ?_ ?_
 ·rintro a ⟨i,_⟩ _ b h;simp only at h;have A:=o _ (cR b);simp only[bZ,bX,ae.Is,fC];refine⟨λ_=>⟨⟨aa,aa,aa⟩,?_⟩,λp=>by grind⟩;refine cy (P:=λd=>d.1=i/\d.2.1=(bI q.length).map λ(k:X)=>br ((k:Z)∈q[a])) ?_ ?_
  ·refine ae.for (i0:=0) q[a].length (λc e=>e.1=i/\e.2.1=(bI q.length).map λ(k:X)=>br ((k:Z)∈q[a].take c)) rfl ⟨bn,?_⟩ (c8 _) ?_ ?_
   ·apply hM;grind
   ·rintro c ⟨B,w,_⟩ _ g ⟨l,m⟩;simp only at l m;have t:=r a b _ (cR g);have z:w.length=q.length:=(by grind);simp only[bZ,bX,ah5,ae.D5,ae.BC,bu];refine⟨b,λ_=>⟨b,g,⟨t.1,aa⟩,aa,iO aa,l,?_⟩,λp=>by grind⟩;apply hM;intro j;rw[vX,m,jg,jg];rcases cO j q.length with f|f
    ·rw[Bi f];simp only[i9,<-tr g,hX,gd,ff,mP];by_cases s:(q[a][c]).toNat=j
     ·grind
     rw[ax s];have:¬(j:Z)=q[a][c]:=aa;grind
    grind
   simp_all [bZ,bX,ah5,bu,hO]
  grind [bX,ae.xv,bu,iO,Q0,ct]
 rintro⟨i,_⟩ h;simp only at h;simp only[bZ,bu];grind [JZ,cA]
theorem Mn (a:X) (h:a<=4294967296):zy ((a:Z),())=Y (bJ a (bJ a bq),()):=by
 rw[<-bQ];unfold zy;have g:hB=4294967296:=rfl;simp only[bX];refine cy (P:=λd=>d.1=bJ a (bJ a bq)) ?_ (by grind [bu]);refine ae.for (i0:=0) a (λb e=>e.1=bJ b (bJ a bq)) rfl rfl (c8 _) ?_ ?_
 ·rintro b ⟨i,_⟩ _ f c;simp only at c;simp only[bZ,bX,bu,ae.Is,ae.xv,fC];grind [List.replicate_succ',iO]
 simp_all [bZ,bu]
section
def aB {α:Type} (b:X) (a:X->α):bm α:=(bI b).map a
def eB {α:Type} (b:X->α) (c:X) (d:α):X->α:=λa=>if a=c then d else b a
section
variable {α A B:Type}
theorem gI (c:X->α) (a:X) (b:α):eB c a b a=b:=au bn
theorem hb (a:X->α) (d:α) (c:b≠e):eB a e d b=a b:=ax c
theorem cY (a:X) (b:X->α):(aB a b).length=a:=by simp[aB]
theorem oc (c:X) (b:X->α) (a:X):(aB c b)[a]?=if a<c then Y (b a) else bo:=by unfold aB;grind
theorem jl {a:X->α} (c:b<e):(aB e a)[b]?=Y (a b):=by rw[oc,au c]
theorem lE {a:X->α} (c:b<(aB e a).length):(aB e a)[b]=a b:=by simp[aB]
theorem c9 {c d:X->α} (e:∀a,a<b->c a=d a):aB b c=aB b d:=ia λa f=>e a (ig.1 f)
theorem UV (a:X->α):aB 0 a=[]:=rfl
theorem zP (b:X) (a:X->α):aB (b+1) a=aB b a++[a b]:=by simp[aB,i5]
theorem jb (a:X) (b:α):bJ a b=aB a λ_=>b:=by apply hM;grind [oc]
theorem hA {a:X->α} (c:α):(aB e a).set b c=aB e (eB a b c):=by apply hM;intro d;rw[vX,oc,oc,cY];unfold eB;grind
def NX {a:X->α} {d:α}:d∈aB b a↔∃c,c<b/\a c=d:=by simp[aB]
theorem UU (a:bm α) (c:X->α) (d:∀b,(e:b<a.length)->a[b]=c b):a=aB a.length c:=by apply hM;grind [ajE,bS,oc]
theorem DK (c a:X) (b:X->α) (d:a<=c):(aB c b).take a=aB a b:=by apply hM;intro e;rw[akm,oc,oc];grind
theorem US (d a:X) (b:X->α):(aB d b).drop a=aB (d-a) (λc=>b (a+c)):=by apply hM;intro c;rw[pA,oc,oc];grind
theorem zO (b e:X) (c d:X->α):aB b c++aB e d=aB (b+e) (λa=>if a<b then c a else d (a-b)):=by apply hM;intro a;rw[List.getElem?_append,cY,oc,oc,oc];grind
theorem eS {n i:X} (a:i<n):bj n (i:Z)=Y i:=by simp_all [au,bj]
theorem gq {c:bm α} {v:α} {a:α->bv A} (d:c[b]?=Y v):a9 c b a=a v:=by grind [a9]
theorem gV {a:X->α} {c:α->bv A} (d:b<e):a9 (aB e a) b c=c (a b):=gq (jl d)
def rp {a:X->α} (c:b<e):ao (aB e a) (b:Z)=Y (a b):=gN (jl c)
theorem da (a:b<=4294967296):cD b=Y ():=au a
theorem h9 (a:b<=4294967296):fY (b:Z) (b:Z)=Y b:=by unfold fY;rw[au ⟨aa,aa,by have:hB=4294967296:=rfl;omega⟩];simp
theorem vc:gv (b:Z)=Y b:=by simp_all [au,gv]
theorem p4 (a:e<=b/\b<=l):g9 e b l=Y ():=au a
def Jj (a:0<b):nK b=Y ():=rfl
theorem gD (a b:Z):(a==b)=br (a=b):=by grind
theorem fX (a b:Z):(a !=b)=!br (a=b):=by grind
theorem aK [aiE m] (a:m):decide m=bp:=ah3 a
theorem aI [aiE m] (a:¬m):decide m=bq:=aiy a
theorem aY {a b:α} (c:g=bp):(bif g then a else b)=a:=by grind
theorem a1 {b a:α} (c:g=bq):(bif g then b else a)=a:=by grind
theorem cQ [aiE m] {a b:α}:(bif decide m then a else b)=if m then a else b:=by grind
theorem yP [aiE m] {a b:α}:(bif decide m==bp then a else b)=if m then a else b:=by grind
theorem wB [aiE m] {a b:α}:(bif decide m==bq then a else b)=if m then b else a:=by grind
theorem A7 (a:b<9223372036854775808):bK.wrap (b:Z)=(b:Z):=cr aa aa
theorem Rw (a:b+e<9223372036854775808):bK.wrap ((b:Z)+(e:Z))=((b+e:X):Z):=by grind [cr]
theorem aeq (c:e<=b) (a:b<9223372036854775808):bK.wrap ((b:Z)-(e:Z))=((b-e:X):Z):=by grind [cr]
theorem vF (c:1<=b) (a:b<9223372036854775808):bK.wrap ((b:Z)-1)=((b-1:X):Z):=by grind [cr]
theorem iN (a:b+1<9223372036854775808):bK.wrap ((b:Z)+1)=((b+1:X):Z):=by grind [cr]
end
def ae.of_eq {α:Type} {b:bv α} {y:α} {a:α->Prop} (c:b=Y y) (d:a y):ae b a:=⟨y,c,d⟩
theorem ae.aM {α A:Type} {c:bv α} {b:α->bv A} {P:α->Prop} {a:A->Prop} (e:ae c P) (f:∀d,P d->ae (b d) a):ae (c.bind b) a:=
 bX.2 (e.mono f)
theorem ae.ite {α:Type} [aiE m] {b c:bv α} {a:α->Prop} (d:m->ae b a) (e:¬m->ae c a):ae (if m then b else c) a:=by grind
theorem ai {α A:Type} {c:bv α} {a:α->bv A} {y:α} {b:bv A} (d:c=Y y) (e:a y=b):c.bind a=b:=by grind
theorem Ab {f:Z×h->bv ((Z×h)⊕o)} {g:o} {i:h} (d:X) (c:X->h) (e:X) (k:a=(e:Z)) (l:i=c e) (j:e<=d) (p:∀b,e<=b->b<d->f ((b:Z),c b)=Y (.inl (((b+1:X):Z),c (b+1)))) (n:f ((d:Z),c d)=Y (.inr g)):loop f (a,i)=Y g:=by
 subst k l;rw[<-bQ];refine ae.for d (λb m=>m=c b) rfl rfl j ?_ ?_
 ·grind [bu]
 grind [bu]
theorem sY {τ:Type} {i:Z×τ->bv ((Z×τ)⊕h)} (f:X) (e:X->Prop) (g:τ) (m l:h) (d:X) (r:a=(d:Z)) (q:d<=f) (s:∀b,d<=b->b<f->(∀c,d<=c->c<b->e c)->i ((b:Z),g)=Y (open Classical in if e b then .inl (((b+1:X):Z),g) else .inr l)) (v:(∀c,d<=c->c<f->e c)->i ((f:Z),g)=Y (.inr m)):loop i (a,g)=Y (open Classical in if∀b,d<=b->b<f->e b then m else l):=by
 classical
 subst r;rw[<-bQ];refine ae.for f (λb t=>t=g/\∀c,d<=c->c<b->e c) rfl ⟨bn,λc j u=>by omega⟩ q ?_ ?_
 ·rintro b _ n j ⟨rfl,o⟩;rw[s b n j o];by_cases k:e b
  ·rw[au k];grind [cl,bu]
  rw[ax k];exact bu.2 (by rw[ax (λp=>k (p b n j))])
 rintro _ ⟨rfl,o⟩;simp_all [bu,au]
theorem Io {d:Z×bt->bv dQ} (c:X) (b:X->Prop) (h:∀a,a<c->d ((a:Z),())=Y (open Classical in if b a then .inl (((a+1:X):Z),()) else .inr (.inr ((a:Z),())))) (m:d ((c:Z),())=Y (.inr (.inl ()))):ae (loop d (0,())) (λi=>match i with|.inl _=>∀a,a<c->b a|.inr j=>0<=j.1/\¬∀a,a<c->b a):=by
 classical
 refine ae.for c (λa _=>∀e,e<a->b e) (i0:=0) rfl (λe k=>by omega) (c8 _) ?_ ?_
 ·rintro a ⟨⟩ _ g l;rw[h a g];by_cases f:b a
  ·rw[au f];grind [cl,bu]
  rw[ax f];grind [bu]
 grind [bu]
end
theorem Kk (a:Z):cc.wrap a=a %4294967296:=by unfold ajF;exact ax (ac:¬(bq&&br (a %4294967296>=(2147483648:Z)))=bp)
theorem A8 (a:Z):bC.wrap a=a %18446744073709551616:=by unfold ajF;exact ax (ac:¬(bq&&br (a %18446744073709551616>=(9223372036854775808:Z)))=bp)
theorem tx (b:0<=a) (c:a<18446744073709551616):bC.wrap a=a:=by grind [A8]
theorem Kl (b:0<=a) (c:a<4294967296):cc.wrap a=a:=by grind [Kk]
theorem uc (a:b<18446744073709551616):(cg 64 (b:Z)).toNat=b:=by grind
theorem K4 (d:b<18446744073709551616) (f:e<18446744073709551616):ey .u64 (b:Z) (e:Z)=((b&&&e:X):Z):=by have a:((cg 64 (b:Z))&&&(cg 64 (e:Z))).toNat=b&&&e:=(by grind);have c:b&&&e<=b:=amE;unfold ey;rw[show bC.bits=64 from rfl,a];grind [tx]
theorem K3 (d:b<4294967296) (f:e<4294967296):ey .u32 (b:Z) (e:Z)=((b&&&e:X):Z):=by have a:((cg 32 (b:Z))&&&(cg 32 (e:Z))).toNat=b&&&e:=(by grind);have c:b&&&e<=b:=amE;unfold ey;rw[show cc.bits=32 from rfl,a];grind [Kl]
theorem aaO (c:b<18446744073709551616) (d:e<18446744073709551616):fN .u64 (b:Z) (e:Z)=((b|||e:X):Z):=by have a:(cg 64 (b:Z)|||cg 64 (e:Z)).toNat=b|||e:=(by grind);have f:b|||e<2^64:=alJ c d;unfold fN;rw[show bC.bits=64 from rfl,a];grind [tx]
theorem aaN (c:b<4294967296) (d:e<4294967296):fN .u32 (b:Z) (e:Z)=((b|||e:X):Z):=by have a:(cg 32 (b:Z)|||cg 32 (e:Z)).toNat=b|||e:=(by grind);have f:b|||e<2^32:=alJ c d;unfold fN;rw[show cc.bits=32 from rfl,a];grind [Kl]
theorem sa (b:X) (d:0<=a) (f:a<18446744073709551616) (c:Z) (e:b<=64) (i:c=2^b-1):ey .u64 a c=a %2^b:=by obtain⟨k,rfl⟩:=fR d;have j:0<2^b:=jy b;have g:c=((2^b-1:X):Z):=(by grind);have h:2^b<=2^64:=tQ ab e;grind [K4,alK]
theorem and_low32 (b:0<=a) (c:a<18446744073709551616):ey .u64 a 4294967295=a %4294967296:=sa 32 b c _ ab ab
theorem m4 (a:Z):eJ .u64 a 32=Y (a/4294967296):=by have:eJ .u64 a 32=Y (a.fdiv 4294967296):=rfl;grind
theorem nQ (b:0<=a) (c:a<=64):h2 .u64 d a=Y ((d*2^a.toNat) %18446744073709551616):=by unfold h2;rw[au b,A8,show bC.bits=64 from rfl,hG aa]
theorem tn (b:0<=a) (c:a<=64):eJ .u64 d a=Y (d/2^a.toNat):=by unfold eJ;rw[au b,show bC.bits=64 from rfl,hG aa,amF _ (by grind)]
theorem K7 (a:X) (c:b<2^a):b|||(e*2^a)=b+e*2^a:=by rw[ajQ,Nat.or_comm,qD,Nat.two_pow_add_eq_or_of_lt c]
theorem m1 (b:X) (e:0<=a) (h:a<2^b) (f:0<=d) (i:a<18446744073709551616) (j:d<18446744073709551616) (l:d %2^b=0):fN .u64 a d=a+d:=by obtain⟨g,rfl⟩:=fR e;obtain⟨c,rfl⟩:=fR f;have n:g<2^b:=(by grind);have m:c %2^b=0:=(by grind);rw[aaO aa aa];have k:c=(c/2^b)*2^b:=(by grind [Nat.mul_comm,aky]);grind [K7]
def aN (a:X):X:=if a=0 then 0 else a.log2+1
theorem gj:aN e<=b↔e<2^b:=by grind [Nat.log2_lt,aj2,aN]
def sh:b<aN e↔2^b<=e:=by rw[<-Nat.not_le,gj,Nat.not_lt]
def rC (a b:X) (c:a<=b):2^a<=2^b:=tQ ab c
def aaU (a b:X) (c:a<b):2^a<2^b:=amG ab c
def l3 (a:e<=b):aN e<=aN b:=by rw[gj];have:=gj.1 (bc (aN b));omega
theorem BH {a:X} (c:aN b<=l) (d:aN e<=a):aN (b*e)<=l+a:=by simp_all [Nat.mul_lt_mul'',gj,i7]
def S7 (a:X) (c:aN b<=a) (d:aN e<=a):aN (b+e)<=a+1:=by rw[gj] at*;omega
theorem abl {a:X} (d:e*2^l=b*2^a) (f:0<e):0<b:=by
 rcases n0 b with c|c
 ·simp_all [amH,jy,Nat.zero_mul]
 omega
theorem pP {m:X} (a:0<m):0<aN m:=sh.2 a
def Lt {k:X} (a:2^k<=b) (c:b<2^(k+1)):aN b=k+1:=by have:=sh.2 a;have:=gj.2 c;omega
theorem ua (a:0<b):2^(aN b-1)<=b/\b<2^aN b:=
 ⟨sh.1 (by grind [pP]),gj.1 (bc _)⟩
theorem oU (d:0<b) (a:X):aN (b*2^a)=aN b+a:=by
 obtain⟨e,f⟩:=ua d;have i:=jy a;have h:=pP d;obtain⟨c,g⟩:∃c,aN b=c+1:=⟨aN b-1,aa⟩;rw[g] at e f|-;rw[(aa:c+1+a=(c+a)+1)];refine Lt ?_ ?_
 ·simp_all [h5,i7]
 rw[(aa:c+a+1=(c+1)+a),i7];simp_all
theorem ws (b a:X):aN (b/2^a)=aN b-a:=by
 have c:=jy a;apply Nat.le_antisymm
 ·rw[gj,akx c,<-i7];exact gj.1 aa
 rcases cO a (aN b) with d|d
 ·have:aN b-a-1<aN (b/2^a):=by
   rw[sh,alL c,<-i7];exact sh.1 aa
  omega
 omega
def vE (c:bA) (b:Z) (d:bA) (a:Z):bA:=
 if a=1 then c else if a=2 then !c else if a=3 then bq else br (0<b)||(br (b=0)&&d)
def kx (b a:X) (c:bA):Z:=
 if 2*(b %2^a)<2^a then-1 else if 2^a<2*(b %2^a) then 1 else if c then 1 else 0
def hS (e:bA) (a b:X) (c:bA) (d:Z):X:=
 if a %2^b=0/\c=bq then a/2^b
 else if vE e (kx a b c) (br (a/2^b %2=1)) d then a/2^b+1 else a/2^b
def IA (b a c:X):b %2^(a+c)=(b/2^a %2^c)*2^a+b %2^a:=by rw[i7,Nat.mod_mul,ajQ,qD]
def Ma (b a c:X):b/2^(a+c)=b/2^a/2^c:=by rw[i7,amI]
theorem TT (m:bA) (b a c:X) (d:bA) (l:Z) (v:0<c):hS m b (a+c) d l=hS m (b/2^a) c (d||br (b %2^a≠0)) l:=by
 have k:=jy a;have j:=aju b k;have q:¬(b %2^(a+c)=0/\d=bq)->kx b (a+c) d=kx (b/2^a) c (d||br (b %2^a≠0)):=by
  intro _;unfold kx;rw[IA,i7];obtain⟨i,rfl⟩:∃i,c=i+1:=⟨c-1,aa⟩;rw[tR];generalize u:b/2^a %(2^i*2)=h;generalize t:b %2^a=n at j|-;generalize s:2^i=g;generalize r:2^a=e at j k|-;rw[show e*(g*2)=2*(g*e) by grind,show 2*(h*e+n)=2*(h*e)+2*n by grind];rcases r4 h g with f|f|f
  ·have o:(h+1)*e<=g*e:=h5 _ f;grind
  ·grind
  have o:(g+1)*e<=h*e:=h5 _ f;grind
 have p:(b %2^(a+c)=0/\d=bq)↔(b/2^a %2^c=0/\(d||br (b %2^a≠0))=bq):=by
  rw[IA];cases d
  ·simp_all [amH,b9,Bool.false_or,decide_eq_false_iff_not,ne_eq,Decidable.not_not]
  simp
 unfold hS;by_cases f:b %2^(a+c)=0/\d=bq
 ·rw[au f,au (p.1 f),Ma]
 simp_all [ax,Ma]
def jd (b:bA) (a:Z):Z:=if b then 9223372036854775808+a else a
def p9 (a:bA) (b:Z):Z:=
 if b=3\/(b=1/\a=bq)\/(b=2/\a=bp) then jd a 9218868437227405311 else jd a 9218868437227405312
def kG (a:bA) (b:X) (c d:Z):Z:=
 if b<4503599627370496 then jd a b
 else if b=9007199254740992 then if c+1+1075>=2047 then p9 a d else jd a ((c+1+1075)*4503599627370496)
 else if c+1075>=2047 then p9 a d else jd a ((c+1075)*4503599627370496+(b-4503599627370496))
def db (b:X) (a:Z):Z:=max (a+aN b-1-52) (-1074)
def lK (d:bA) (b:X) (a:Z) (e:bA) (c:Z):Z:=
 if db b a<=a then kG d (b*2^(a-db b a).toNat) (db b a) c
 else kG d (hS d b (db b a-a).toNat e c) (db b a) c
theorem adT {m k:X} {e:Z} (a:k<aN m):db (m/2^k) (e+k)=db m e:=by grind [ws,db]
theorem acm {k:X} (i:k+53<aN b):lK j b a g d=lK j (b/2^k) (a+k) (g||br (b %2^k≠0)) d:=by have h:=adT (m:=b) (k:=k) (e:=a) aa;have l:a+k<db b a:=(by grind [db]);unfold lK;rw[h,ax aa,ax aa];obtain⟨c,f⟩:∃c:X,db b a-a=(k+c:X):=⟨(db b a-a-k).toNat,aa⟩;rw[f,(aa:(db b a-(a+k)).toNat=c),fC,TT _ _ _ _ _ _ aa]
def z6:X->X->X
 |0,_=>0
 |f+1,a=>if(2*z6 f (a/4)+1)*(2*z6 f (a/4)+1)<=a then 2*z6 f (a/4)+1 else 2*z6 f (a/4)
def H2 (a:X):X:=z6 (aN a) a
abbrev pn:=bA×ahZ×bt
abbrev ga:=bA×pn×Z×bt
def hg (a:pn):Z:=if a.1 then-ag a.2.1 else ag a.2.1
def aS (a:Z):pn:=(br (a<0),eQ a.natAbs,())
theorem oC (a:Z):hg (aS a)=a:=by unfold hg aS;simp only[sF,aip];omega
theorem mr (a:Z):aQ (aS a).2.1:=ob _
def DE (a:Z):e5 (aS a).2.1:=xa _
theorem il (a:Z):ag (aS a).2.1=a.natAbs:=sF _
theorem w8:(aS a).2.1=[]↔a=0:=by show eQ a.natAbs=[]↔_;grind [Ul]
theorem Mo {neg:bA} (a:aQ c) (b:e5 c):(neg&&br (c≠[]),c,())=aS (hg (neg,c,())):=by have e:=e8 a;have f:c=eQ (ag c).toNat:=e5.eq a b;have g:c=[]↔ag c=0:=⟨λd=>by rw[d];rfl,e5.zero a b⟩;unfold aS hg;grind
def Fu:X->X->X
 |0,_=>0
 |f+1,a=>if a %2=0 then Fu f (a/2)+1 else 0
def cT (a:X):X:=if a=0 then 0 else Fu (aN a) a
def adN:∀{a n:X},0<n->n<2^a->∃b,n=(2*b+1)*2^Fu a n:=by
 intro a
 induction a with
 |zero=>omega
 |succ a e=>
  intro n f g;unfold Fu;split
  ·rename_i c;obtain⟨b,d⟩:=e (n:=n/2) aa aa;refine⟨b,?_⟩;rw[tR,<-oL,<-d];omega
  rename_i c;exact⟨n/2,aa⟩
theorem tu {n:X} (b:0<n):∃a,n=(2*a+1)*2^cT n:=by unfold cT;rw[ax aa];exact adN b (gj.1 (bc _))
theorem Ov:∀{s t a b:X},(2*a+1)*2^s=(2*b+1)*2^t->s=t/\a=b
 |0,0,a,b,c=>by omega
 |0,t+1,a,b,c=>by grind
 |s+1,0,a,b,c=>by grind
 |s+1,t+1,a,b,c=>by rw[tR,<-oL,tR,<-oL] at c;obtain⟨d,e⟩:=Ov (s:=s) (t:=t) (a:=a) (b:=b) aa;omega
theorem x3 {a:X} (c:b=(2*a+1)*2^e):cT b=e:=by have f:=jy e;have d:0<b:=(by grind);grind [Ov,tu]
theorem Ka (e:0<b) (c:X):cT (b*2^c)=cT b+c:=by obtain⟨d,f⟩:=tu e;refine x3 (a:=d) ?_;grind
theorem adO {n:X} (a:0<n):n/2^cT n %2=1:=by grind [alM,aj2,tu]
theorem ts {n:X} (a:0<n):cT n<aN n:=by obtain⟨b,c⟩:=tu a;rw[sh];grind
theorem sS {n k:X} (d:0<n):k<=cT n↔n %2^k=0:=by
 obtain⟨c,f⟩:=tu d;constructor
 ·intro i;obtain⟨a,b⟩:∃a,cT n=a+k:=⟨cT n-k,aa⟩;rw[b,i7,<-oL] at f;simp_all
 intro j;rcases cO (cT n) k with e|e
 ·exfalso;obtain⟨a,b⟩:∃a,k=cT n+(a+1):=⟨k-cT n-1,aa⟩;have g:n=n/2^k*2^k:=(by grind [Nat.mul_comm,aky]);have l:=jy (cT n);have h:(2*c+1)*2^cT n=(2*(n/2^k*2^a))*2^cT n:=by
   grind
  grind [Nat.eq_of_mul_eq_mul_right]
 omega
def rI (b a:Z):Z:=b*2^a.toNat/2^(-a).toNat
def hJ (a b:Z):ahT:=
 if a=0 then Y 0
 else if b+cT a.natAbs< -65536\/65536<b+aN a.natAbs then bo
 else Y (rI a (b+65536))
def az:ahT->ga
 |none=>(bp,(bq,[],()),0,())
 |some a=>if a=0 then(bq,(bq,[],()),0,()) else(bq,aS (a/2^cT a.natAbs),(cT a.natAbs:Z)-65536,())
def fO (a:Z):Prop:=aN a.natAbs<=131072
instance(a:Z):aiE (fO a):=inferInstanceAs (aiE (_<=_))
def oV (a:Z):ahT:=if fO a then Y a else bo
def cP (b:ahT):Prop:=∀a,b=Y a->fO a
theorem jo (b:Z) (a:X):(b*2^a).natAbs=b.natAbs*2^a:=by rw[vT,Int.natAbs_pow];rfl
theorem zJ (c:a.natAbs %2^b=0):a/2^b*2^b=a:=by grind [Int.ediv_mul_cancel,Int.ofNat_dvd_left,Nat.dvd_of_mod_eq_zero]
theorem Ak (c:a.natAbs %2^b=0):(a/2^b).natAbs=a.natAbs/2^b:=by grind [jo,alM,aj2,zJ]
theorem pf (b:Z) (a:X):rI b a=b*2^a:=by grind [aiA,rI]
theorem xZ (b:Z) (a:X):rI b (-(a:Z))=b/2^a:=by simp_all [Int.neg_neg,fC,rI]
def cG (a:Z):Z:=a/2^cT a.natAbs
def e7 (a:Z):Z:=(cT a.natAbs:Z)-65536
theorem rA (a:Z):cG a*2^cT a.natAbs=a:=by
 rcases n0 a.natAbs with b|b
 ·obtain rfl:a=0:=aa;rfl
 exact zJ ((sS b).1 (bc _))
def Oq (b:a≠0):(cG a).natAbs=a.natAbs/2^cT a.natAbs:=Ak ((sS aa).1 (bc _))
theorem jr (c:a≠0):cG a≠0:=λb=>by grind [rA]
def Ou (b:d≠0):cT (cG d).natAbs=0:=by rw[Oq b];have:=adO (n:=d.natAbs) aa;exact x3 (a:=d.natAbs/2^cT d.natAbs/2) aa
theorem Ot (b:a≠0):aN (cG a).natAbs=aN a.natAbs-cT a.natAbs:=by rw[Oq b,ws]
theorem An {v:Z}:cG v<0↔v<0:=by
 have c:=rA v;have b:(0:Z)<2^cT v.natAbs:=mM ab;constructor
 ·intro a;have:=Int.mul_neg_of_neg_of_pos a b;omega
 grind [ai0,akJ,ail]
theorem Mq (b:a≠0):az (Y a)=(bq,aS (cG a),e7 a,()):=by show(if a=0 then _ else _)=_;rw[ax b];rfl
theorem Ep {v:Z} (i:-65536<=a) (c:v=d*2^(a+65536).toNat):hJ d a=oV v:=by
 obtain⟨e,g⟩:∃e:X,a+65536=e:=⟨(a+65536).toNat,aa⟩;rw[g,fC] at c;unfold hJ oV;by_cases f:d=0
 ·subst f;simp only[pq] at c;subst c;rw[au bn,au (show fO 0 from(by decide:aN 0<=131072))]
 rw[ax f];have h:aN v.natAbs=aN d.natAbs+e:=(by grind [jo,oU]);by_cases b:fO v
 ·rw[au b];unfold fO at b;rw[ax aa,g,pf,c]
 rw[ax b];unfold fO at b;grind
theorem Xe (b:fO a):hJ (cG a) (e7 a)=Y a:=by
 by_cases c:a=0
 ·subst c;rfl
 rw[Ep (v:=a) (by grind [e7]) (by
  grind [rA,cT,e7])]
 exact au b
theorem Iy (f a:Z):cP (hJ f a):=by
 intro i b;unfold hJ at b;split at b
 ·cases b;show aN 0<=_;decide
 split at b
 ·cases b
 rename_i g h;cases b;unfold fO;rcases amJ 0 (a+65536) with e|e
 ·obtain⟨c,d⟩:∃c:X,a+65536=c:=⟨(a+65536).toNat,aa⟩;grind [pf,jo,oU]
 obtain⟨c,d⟩:∃c:X,a+65536=-(c:Z):=⟨(-(a+65536)).toNat,aa⟩;rw[d,xZ,Ak ((sS aa).1 aa),ws];omega
theorem Tv (a:Z):cP (oV a):=by intro c b;grind [oV]
def PO (c a d b:X) (f:0<a):c*2^d/a=c*2^(d+b)/a/2^b:=by have e:=jy b;rw[amI,i7,<-oL,Nat.mul_div_mul_right _ _ e]
theorem abz (d a c b:X) (m:0<a):d*2^c %a≠0↔(d*2^(c+b) %a≠0\/d*2^(c+b)/a %2^b≠0):=by
 have t:=jy b;have r:=r3 (d*2^c) a;have j:=r3 (d*2^(c+b)) a;have k:=r3 (d*2^(c+b)/a) (2^b);rw[<-PO d a c b m] at k;generalize d*2^(c+b)/a=o at*;generalize d*2^c/a=g at*;generalize d*2^c %a=i at*;generalize d*2^(c+b) %a=h at*;generalize o %2^b=p at*;rw[i7] at j;generalize 2^b=e at*;generalize 2^c=v at*;have l:i*e=a*p+h:=(by have s:(a*g+i)*e=a*o+h:=(by rw[r,j,oL]);rw[<-k,lu,Nat.mul_add] at s;have w:a*g*e=a*(e*g):=(by grind);omega);constructor
 ·intro y;have x:0<i*e:=amK aa t;by_cases n:h=0
  ·right;intro u;subst u;subst n;simp at l;omega
  exact .inl n
 rintro f q;subst q;simp only[Nat.zero_mul] at l;rcases f with f|f
 ·omega
 have:=amK m (aa:0<p);omega
def rE (a b c:X) (f:bA) (d e:Z):Z:=lK f (b*2^a/c) (d-a) (br (b*2^a %c≠0)) e
def EV (h:0<b) (d:0<e) (i:58+aN e<=aN b+l):58<=aN (b*2^l/e):=by
 rcases cO 57 (aN (b*2^l/e)) with a|a
 ·exact a
 exfalso;have c:b*2^l/e<2^57:=gj.1 a;rw[akx d] at c;have f:=(ua d).2;have g:b*2^l<2^57*2^aN e:=i6 c (alN _ (Nat.le_of_lt f));rw[<-i7,<-gj,oU h] at g;omega
def abx {f:X} (m:0<e) (h:0<l) (j:58+aN l<=aN e+b) (o:b<=f):rE f e l g a d=rE b e l g a d:=by obtain⟨c,rfl⟩:∃c,f=b+c:=⟨f-b,aa⟩;unfold rE;have p:=EV m h j;have i:=PO e l b c h;have n:c+53<aN (e*2^(b+c)/l):=(by have:=ws (e*2^(b+c)/l) c;rw[<-i] at this;omega);rw[acm (k:=c) n,<-i,(aa:a-((b+c:X):Z)+c=a-b)];congr 1;rw[<-Bool.decide_or,cx];exact(abz e l b c h).symm
def Qd (a b:X) (c d:Z):Z:=lK bq (H2 (b*2^a)) ((c-a)/2) (br (H2 (b*2^a)*H2 (b*2^a)≠b*2^a)) d
def qe (a b:Z):Z:=if a=0 then 0 else lK (br (a<0)) (cG a).natAbs (e7 a) bq b
def m2 (a b:X):X:=59+aN b-aN a
def vo (a b c:Z):Z:=rE (m2 (cG a).natAbs (cG b).natAbs) (cG a).natAbs (cG b).natAbs (br (a<0)!=br (b<0)) (e7 a-e7 b) c
def aby {oj:Z} (c:a≠0) (e:d≠0) (f:m2 (cG a).natAbs (cG d).natAbs<=b):rE b (cG a).natAbs (cG d).natAbs (br (a<0)!=br (d<0)) (e7 a-e7 d) oj=vo a d oj:=by have g:=jr c;have h:=jr e;refine abx aa aa ?_ f;unfold m2;omega
def Qc (a:X) (b:Z):X:=if(b-((118-aN a:X):Z)) %2=0 then 118-aN a else 118-aN a+1
def Jy (a b:Z):Z:=Qd (Qc (cG a).natAbs (e7 a)) (cG a).natAbs (e7 a) b
theorem e3 {a:bm h} (c:b<a.length):ao a (b:Z)=Y a[b]:=gN (ba c)
theorem A6 (a:b<9223372036854775808):ay (b:Z)=(b:Z):=cr aa aa
theorem cL {x:Z} (a:-9223372036854775808<=x) (b:x<=9223372036854775807):ay x=x:=cr a b
theorem bk (a:b<9223372036854775807):aP (b:Z)=((b+1:X):Z):=by grind [cr]
theorem fq {x:Z} (a:0<=x) (b:x<18446744073709551616):aL x=x:=tx a b
theorem lh {x:Z} (a:0<=x) (b:x<4294967296):dc x=x:=Kl a b
theorem pk (a:Z):dc a=a %4294967296:=Kk a
theorem rP (a:Z):aL a=a %18446744073709551616:=A8 a
theorem rr (b:0<=a) (c:a<18446744073709551616):dc (ey bC a 4294967295)=a %4294967296:=by rw[and_low32 b c,lh aa aa]
theorem bh (a:bm h):al a=(a.length:Z):=rfl
theorem Fh {a:bm h} (e:b<=a.length):((Y (0:X)).bind λc=>(gv (b:Z)).bind λd=>(g9 c d a.length).map λ_=>(c,d))=Y (0,b):=by simp_all [aC,vc,p4,c8]
theorem oB (n:aQ c) (o:c.length<=100000000):iz (c,())=Y (ir c,()):=by
 unfold iz;refine bQ.1 ?_;refine ae.aM (P:=λk=>∃a:X,k.1=(a:Z)/\a<=c.length/\(∀b,a<=b->(i:b<c.length)->c[b]=0)/\e5 (c.take a)) ?_ ?_
 ·refine aik (λf=>∃a:X,f.1=(a:Z)/\a<=c.length/\(∀b,a<=b->(i:b<c.length)->c[b]=0)) (λf=>f.1.toNat) ⟨c.length,bn,bc _,λb d e=>by omega⟩ ?_;rintro⟨_,_⟩ ⟨a,rfl,d,e⟩;rcases a with _|a
  ·refine bu.2 ⟨0,bn,c8 _,e,λl j=>by grind⟩
  have aq:ay (((a+1:X):Z)-1)=(a:Z):=(by grind [cL]);have h:br (((a+1:X):Z)>0)=bp:=aK aa;simp only[aq,h,aix,bG,e3 (show a<c.length from d),aC];by_cases g:c[a]=0
  ·rw[gD,aK g];grind [cl,bu]
  rw[gD,aI g];refine bu.2 ⟨a+1,bn,d,e,λl j=>?_⟩;grind
 rintro⟨_,_⟩ ⟨a,rfl,d,e,m⟩;refine ae.of_eq (ai (Fh d) rfl) ?_;grind [Q9]
theorem yN (b:c.length<=100000000):uz (c,())=Y (c,()):=by unfold uz;have a:((cD (([]:ahZ).length+c.length)).bind λ_=>Y (([]++c:ahZ),()))=Y (c,()):=(by grind [da]);show rz c.length (Y ([],())) ((cD (([]:ahZ).length+c.length)).bind λ_=>Y (([]++c:ahZ),()))=_;unfold rz;grind
theorem sX:(al c==0)=br (c=[]):=by simp_all [alE,gD,cx]
theorem wm (d:aQ c) (e:c.length<=100000000):l4 (g,c,())=Y (aS (hg (g,c,())),()):=by unfold l4;refine ai (oB d e) ?_;have a:=Mo (neg:=g) (J6 c) (Q8 c);have b:hg (g,ir c,())=hg (g,c,()):=(by grind [J7,hg]);rw[<-b,<-a];simp only[sX,cQ];grind
def Ui (c:a.natAbs<2^(32*b)):(aS a).2.1.length<=b:=by refine q7 ?_;unfold aU;have d:(2^(32*b):X)=4294967296^b:=(by rw[alO]);rw[d] at c;have:((4294967296^b:X):Z)=4294967296^b:=ac;omega
def Fit (a:Z):Prop:=(aS a).2.1.length<=31250
def Uh (b:X) (c:aN a.natAbs<=32*b):(aS a).2.1.length<=b:=Ui (gj.1 c)
def jH (b:aN a.natAbs<=1000000):Fit a:=Uh 31250 aa
def XJ {b:pn} (c:aQ b.2.1) (a:b.2.1.length<=100000000):Ca (b,())=Y (aS (hg b),()):=by obtain⟨e,d,_⟩:=b;unfold Ca;exact ai (yN a) (ai (wm c a) rfl)
theorem FA (a:bA) (b:ahZ):hg (!a,b,())=-hg (a,b,()):=by unfold hg;cases a<;>simp
theorem Rm (b:aQ c) (a:bA):hg (bq,c,())=(hg (a,c,())).natAbs:=by have:=e8 b;unfold hg;cases a<;>simp<;>omega
def Ok (e:Fit a):sq (aS a,())=Y (aS (-a),()):=by unfold sq;have b:(aS a).2.1.length<=100000000:=eD e ab;refine ai (yN b) (ai (wm (mr a) b) ?_);have c:=FA (aS a).1 (aS a).2.1;have d:=oC a;rw[c];show Y (aS (-hg (aS a)),())=_;rw[d]
def Bw (d:Fit a):ur (aS a,())=Y (aS a.natAbs,()):=by unfold ur;have b:(aS a).2.1.length<=100000000:=eD d ab;refine ai (yN b) (ai (wm (mr a) b) ?_);rw[Rm (mr a) (aS a).1];have c:=oC a;show Y (aS ((hg (aS a)).natAbs:Z),())=_;rw[c]
def Q6 (c:Fit a):iz ((aS a).2.1,())=Y ((aS a).2.1,()):=by rw[oB (mr a) (eD c ab)];have b:=e5.eq (mr a) (DE a);show Y (eQ (ag (aS a).2.1).toNat,())=_;rw[<-b]
def gB (a:Z):Z:=if a=0 then 0 else if a<0 then-1 else 1
def tp {z:Z} (a:Fit z):pU (aS z,())=Y (gB z,()):=by
 unfold pU;refine ai (Q6 a) ?_;simp only[sX,cQ,w8];unfold gB;split
 ·rfl
 show(bif br (z<0) then _ else _)=_;rw[cQ];split<;>rfl
theorem ae.steps {i:h->bv (h⊕o)} {g:o->Prop} (f:X) (d:X->h->Prop) {m:h} (p:d 0 m) (r:∀b a,b<f->d b a->ae (i a) (λ|.inl t=>d (b+1) t|.inr c=>g c)) (q:∀a,d f a->ae (i a) (λ|.inl _=>b6|.inr c=>g c)):ae (jf.loop i m) g:=by
 have s:∀e b a,b+e=f->d b a->∃c,j2 i (e+1) a=Y c/\g c:=by
  intro e
  induction e with
  |zero=>
   intro b a n l;obtain rfl:b=f:=n;obtain⟨u,j,k⟩:=q a l;grind [j2]
  |succ e v=>
   intro b a n l;obtain⟨u,j,k⟩:=r b a aa l;grind [j2]
 obtain⟨c,j,k⟩:=s f 0 m aa p;exact⟨c,xy.2 ⟨_,j⟩,k⟩
theorem x4 (b:ahZ) (a:X):ag (b.take (a+1))=ag (b.take a)+aU a*b.getD a 0:=by grind [ch,ajE,it,bS,cl]
theorem aQ.getD {a:ahZ} (d:aQ a) (c:X):0<=a.getD c 0/\a.getD c 0<4294967296:=by
 rcases cO c a.length with b|b
 ·rw[lX,ba b];exact d.get b
 grind
theorem kc (a:b<c.length):c.getD b 0=c[b]:=by grind
theorem o4 (a:c.length<=b):c.getD b 0=0:=by grind
theorem PG (r:aQ c) (s:aQ f) (y:c.length<=10000000) (z:f.length<=10000000):wK (c,f,())=Y (eQ (ag c+ag f).toNat,()):=by
 unfold wK;refine bQ.1 ?_;refine ae.aM (P:=λh=>∃i p,h=(i,p,())/\aQ i/\aQ p/\i.length<=10000000/\p.length<=i.length/\ag i+ag p=ag c+ag f) ?_ ?_
 ·simp only[cQ];refine ae.ite (λj=>bu.2 ⟨f,c,bn,s,r,z,?_,akK _ _⟩) λj=>bu.2 ⟨c,f,bn,r,s,y,?_,bn⟩
  ·grind
  grind
 rintro _ ⟨d,m,rfl,B,C,I,F,w⟩;rw[<-w];clear w r s y z;dsimp only;have A:aP (al d)=((d.length+1:X):Z):=bk aa;have aq:fY 0 ((d.length+1:X):Z)=Y 0:=(by unfold fY;rw[ca ⟨aa,aa,by have:hB=4294967296:=rfl;omega⟩];rfl);rw[A,aq];refine ae.aM (P:=λh=>∃b a,h=(b,a,())/\a.length=d.length/\aQ a/\0<=b/\b<=1/\ag a+aU d.length*b=ag d+ag m) ?_ ?_
 ·refine ae.steps d.length (λe D=>∃b a,D=(b,(e:Z),a,())/\a.length=e/\aQ a/\0<=b/\b<=1/\ag a+aU e*b=ag (d.take e)+ag (m.take e)) ⟨0,[],bn,bn,aQ.nil,aa,aa,by simp[ag]⟩ ?_ ?_
  ·rintro e _ t ⟨b,a,rfl,n,k,l,q,v⟩;have G:=B.get t;have H:=C.getD e;have o:∃g,g=d[e]+b+m.getD e 0/\0<=g/\g<18446744073709551616/\g/4294967296<=1:=⟨_,bn,aa,aa,aa⟩;obtain⟨g,o,J,K,E⟩:=o;have u:br ((e:Z)<al d)=bp:=aK (by grind);simp only[u,bG,e3 t,aC];refine ae.aM (P:=λh=>h=(g/4294967296,a++[g %4294967296],())) ?_ ?_
   ·refine ae.aM (P:=λh=>h=(g,a,())) ?_ ?_
    ·simp only[cQ];refine ae.ite (λj=>?_) λj=>?_
     ·grind [fq,bu,kc,e3,bh]
     have j:m.length<=e:=(by grind);rw[o4 j] at o;refine bu.2 ?_;rw[fq (x:=d[e]) aa aa,fq (x:=d[e]+b) aa aa,o,akL]
    grind [da,rr,m4,bu]
   rintro _ rfl;dsimp only;refine bu.2 ⟨g/4294967296,a++[g %4294967296],by rw[bk aa],by grind,k.snoc aa aa,aa,E,?_⟩;rw[qm,n,hV,it t,x4];grind
  rintro _ ⟨b,a,rfl,n,k,l,q,v⟩;have u:br ((d.length:Z)<al d)=bq:=aI (by grind);simp only[u,bP];refine bu.2 ⟨b,a,bn,n,k,l,q,?_⟩;simp_all [fG,bc]
 rintro _ ⟨b,a,rfl,n,k,l,q,v⟩;dsimp only;rw[da (by grind),lh l aa];refine ae.of_eq (ai bn (ai (oB (k.snoc l aa) (by grind)) rfl)) ?_;grind [qm,ir]
def iJ (b:ahZ) (c:X):Prop:=∀a,c<=a->(d:a<b.length)->b[a]=0
def iJ.lQ (b a:X):iJ (bJ b (0:Z)) a:=λd _ c=>by simp
def iJ.set {b:ahZ} {a:X} (c:iJ b a) (e:Z):iJ (b.set a e) (a+1):=λd f g=>by rw[yn aa];exact c d aa _
def iJ.JL {j:X} (a:iJ c b) (f:Z) (g:j<b):iJ (c.set j f) b:=λe d h=>by rw[yn aa];exact a e d _
theorem N1 (q:aQ c) (r:aQ f) (C:c.length<=10000000) (y:f.length<=c.length) (z:ag f<=ag c):wJ (c,f,())=Y (eQ (ag c-ag f).toNat,()):=by
 unfold wJ;refine bQ.1 ?_;simp only[bh,h9 (aa:c.length<=4294967296),aC];refine ae.aM (P:=λh=>∃a b,h=(a,())/\a.length=c.length/\aQ a/\0<=b/\b<=1/\ag a-aU c.length*b=ag c-ag f) ?_ ?_
 ·refine ae.steps c.length (λd t=>∃b a,t=(b,(d:Z),a,())/\a.length=c.length/\aQ a/\iJ a d/\0<=b/\b<=1/\ag a-aU d*b=ag (c.take d)-ag (f.take d)) ⟨0,_,bn,ac,aQ.lQ _,iJ.lQ _ _,aa,aa,by simp[ag,pj]⟩ ?_ ?_
  ·rintro d _ l ⟨b,a,rfl,i,g,n,j,k,o⟩;have A:=q.get l;have B:=r.getD d;obtain⟨e,x,u,v⟩:∃e,e=c[d]-b-f.getD d 0/\-4294967296<=e/\e<4294967296:=⟨_,bn,aa,aa⟩;have m:br ((d:Z)<(c.length:Z))=bp:=aK aa;simp only[bh,m,bG,e3 l,aC];refine ae.aM (P:=λh=>h=(-(e/4294967296),a.set d (e %4294967296),())) ?_ ?_
   ·refine ae.aM (P:=λh=>h=(e %18446744073709551616,a,())) ?_ ?_
    ·simp_all [o4,bu,rP,e3,kc,ae.ite,cQ]
    rintro _ rfl;dsimp only;rw[rr aa aa,lO aa,m4];refine bu.2 ?_;rw[sa 1 aa aa 1 ab ab];grind
   rintro _ rfl;dsimp only;refine bu.2 ⟨-(e/4294967296),a.set d (e %4294967296),by rw[bk aa],by grind,g.set aa aa,n.set _,aa,aa,?_⟩;rw[mJ aa,n d (cj _) aa,hV,it l,x4];grind
  rintro _ ⟨b,a,rfl,i,g,n,j,k,o⟩;have m:br ((c.length:Z)<(c.length:Z))=bq:=aI aa;simp only[bh,m,bP];refine bu.2 ⟨a,b,bn,i,g,j,k,?_⟩;simp_all [fG,bc]
 rintro _ ⟨a,b,rfl,i,g,j,k,o⟩;dsimp only;have p:=g5 g;have w:=fQ c.length;rw[i] at p;have s:b=0:=(by grind);subst s;refine ae.of_eq (ai (oB g aa) rfl) ?_;grind [ir]
def fF (a b:Z):Z:=if a<b then-1 else if b<a then 1 else 0
theorem BN (a b:Z):uk (a,b,())=Y (fF a b,()):=by grind [uk,sn,fF]
theorem TK (a b:Z):BP (a,b,())=Y (fF a b,()):=by grind [BP,BR,fF]
theorem FB (e:aQ c) (g:aQ f) (h:b<c.length) (i:b<f.length) (a:ag (c.drop (b+1))=ag (f.drop (b+1))) (l:c[b]<f[b]):ag c<ag f:=by rw[oD c b aa,oD f b aa,mI h,mI i,a];have d:=g5 (e.take b);have j:=e8 (g.take b);rw[fU,hG aa] at d;have k:aU b*(c[b]+1)<=aU b*f[b]:=jO aa (fu (fQ b));grind
theorem ql (a:aQ f) (b:aQ c) (d:e5 c) (e:f.length<c.length):ag f<ag c:=by have g:=g5 a;have h:=e5.low b d (by grind);have i:=pc (m:=f.length) (n:=c.length-1) aa;omega
theorem GF (g:aQ c) (h:aQ f) (q:e5 c) (r:e5 f) (u:c.length<=10000000) (v:f.length<=10000000):wI (c,f,())=Y (fF (ag c) (ag f),()):=by
 unfold wI;refine bQ.1 ?_;simp only[fX,bh];by_cases m:c.length=f.length
 ·rw[aK (aa:(c.length:Z)=f.length)];simp only[gR,bP];refine ae.aM (P:=λn=>match n with|.inl _=>ag c=ag f|.inr o=>o=(fF (ag c) (ag f),())) ?_ ?_
  ·refine ae.steps c.length (λd p=>p=(((c.length:X):Z)-1-d,())/\ag (c.drop (c.length-d))=ag (f.drop (c.length-d))) ⟨?_,?_⟩ ?_ ?_
   ·grind [cL]
   ·rw[nX aa,nX aa]
   ·rintro d _ s ⟨rfl,e⟩;obtain⟨a,t⟩:∃a,c.length=a+1+d:=⟨c.length-1-d,aa⟩;have aq:((c.length:X):Z)-1-(d:Z)=(a:Z):=aa;have j:a<c.length:=aa;have k:a<f.length:=aa;rw[(aa:c.length-d=a+1)] at e;simp only[aq,aK (aa:(a:Z)>=0),bG,e3 j,e3 k,aC,TK];by_cases i:c[a]=f[a]
    ·simp only[aK i,gR,bP];grind [mI,cL,bu]
    simp only[aI i,mh,bG];refine bu.2 ?_;show(fF c[a] f[a],())=_;have l:fF c[a] f[a]=fF (ag c) (ag f):=by
     unfold fF;rcases Int.lt_or_gt_of_ne i with b|b
     ·rw[au b,au (FB g h j k e b)]
     have:=FB h g k j e.symm b;omega
    rw[l]
   rintro _ ⟨rfl,e⟩;have aq:¬(((c.length:X):Z)-1-(c.length:Z)>=0):=aa;simp_all [bu,aI,bP]
  grind [bu,fF,ag]
 rw[aI (aa:¬(c.length:Z)=f.length)];simp only[mh,bG,BN,aC];refine bu.2 ?_;congr 1;unfold fF;rcases Nat.lt_or_gt_of_ne m with b|b
 ·rw[au aa,au (ql g h r b)]
 have:=ql h g q b;omega
def Aj {x y:Z} (b:0<=x/\x<4294967296) (a:0<=y/\y<4294967296):0<=x*y/\x*y<=18446744065119617025:=by refine⟨m9 b.1 a.1,?_⟩;have c:x*y<=4294967295*y:=m8 aa a.1;omega
theorem acs (x:0<=a/\a<4294967296) (w:aQ c) (K:b+c.length<e) (I:e<=100000000) (u:f.length=e) (v:aQ f) (z:iJ f (b+c.length)) {p:iI->Prop} (J:∀h d,d.length=e->aQ d->iJ d (b+c.length)->0<=h->h<4294967296->ag d+aU (b+c.length)*h=ag f+aU b*(a*ag c)->p (h,d,())):ae (loop (σ:=pK) (ρ:=iI) (λ(k,j,m,_)=>
 bif br (j<al c) then
 (ao c j).bind λr=>
 rd m (ay ((b:Z)+j)) λs=>
 wr m (ay ((b:Z)+j)) (dc (ey bC (aL (aL (aL (aL a*aL r)+aL s)+k)) 4294967295)) λH=>
 (eJ bC (aL (aL (aL (aL a*aL r)+aL s)+k)) 32).bind λG=>
 Y (.inl (G,aP j,H,())) else
 Y (.inr (k,m,()))) (0,0,f,())) p:=by
 refine ae.steps c.length (λg D=>∃h d,D=(h,(g:Z),d,())/\d.length=e/\aQ d/\iJ d (b+c.length)/\0<=h/\h<4294967296/\ag d+aU (b+g)*h=ag f+aU b*(a*ag (c.take g))) ⟨0,f,bn,u,v,z,aa,aa,by simp[ag]⟩ ?_ ?_
 ·rintro g _ l ⟨h,d,rfl,aw,o,q,A,B,C⟩;have y:=w.get l;have M:=o.get (n:=b+g) aa;have L:=Aj x y;obtain⟨i,N,E,F⟩:∃i,i=a*c[g]+d[b+g]+h/\0<=i/\i<18446744073709551616:=⟨_,bn,aa,aa⟩;simp only[aK (show(g:Z)<al c by grind),bG,e3 l,aC];have aq:ay ((b:Z)+(g:Z))=((b+g:X):Z):=(by grind [cL]);rw[aq,js aa];have t:aL (aL (aL (aL a*aL c[g])+aL d[b+g])+h)=i:=by
   grind [fq]
  rw[t,rr E F,lO aa,m4];refine bu.2 ⟨i/4294967296,d.set (b+g) (i %4294967296),by rw[bk aa],by grind,o.set aa aa,q.JL _ aa,aa,aa,?_⟩;rw[mJ aa,(aa:b+(g+1)=(b+g)+1),hV,it l];grind [tD,ajj]
 rintro _ ⟨h,d,rfl,aw,o,q,A,B,C⟩;simp_all [fG,bc,bu,aI,bh,bP,al]
theorem adG (v:aQ f) (w:aQ c) (z:f.length<=10000000) (A:c.length<=10000000):Ce (f,c,())=Y (eQ (ag f*ag c).toNat,()):=by
 unfold Ce;refine bQ.1 ?_;simp only[sX];refine ae.aM (P:=λp=>match p with|.inl _=>f≠[]/\c≠[]|.inr h=>h=(eQ (ag f*ag c).toNat,())) ?_ ?_
 ·by_cases l:f=[]
  ·simp only[aK l];refine bu.2 ?_;subst l;simp[ag];rfl
  simp only[aI l,aix,bG];by_cases r:c=[]
  ·simp only[aK r,bG];refine bu.2 ?_;subst r;simp[ag];rfl
  simp_all [aI,bP,bu]
 rintro(p|p) x
 rotate_left
 ·grind [bu]
 clear x;dsimp only;have u:ay (al f+al c)=((f.length+c.length:X):Z):=(by grind [cL,bh]);rw[u,h9 aa,bN];refine ae.aM (P:=λh=>∃a,h=(a,())/\a.length=f.length+c.length/\aQ a/\ag a=ag f*ag c) ?_ ?_
 ·refine ae.steps f.length (λb y=>∃a,y=((b:Z),a,())/\a.length=f.length+c.length/\aQ a/\iJ a (b+c.length)/\ag a=ag (f.take b)*ag c) ⟨_,bn,ac,aQ.lQ _,iJ.lQ _ _,by simp[ag,pj]⟩ ?_ ?_
  ·rintro b _ m ⟨a,rfl,aw,g,q,t⟩;simp only[aK (show(b:Z)<al f by grind),bG,e3 m,bN];refine ae.aM (P:=λh=>∃e d,h=(e,d,())/\d.length=f.length+c.length/\aQ d/\iJ d (b+c.length)/\0<=e/\e<4294967296/\ag d+aU (b+c.length)*e=ag a+aU b*(f[b]*ag c)) (acs (v.get m) w aa aa aw g q λe d s n i j k o=>⟨e,d,bn,s,n,i,j,k,o⟩) ?_;rintro _ ⟨e,d,rfl,s,n,i,j,k,o⟩;have aq:ay ((b:Z)+al c)=((b+c.length:X):Z):=(by grind [cL,bh]);dsimp only;rw[aq,lh j k,lO aa];refine bu.2 ⟨d.set (b+c.length) e,by rw[bk aa],by grind,n.set j k,?_,?_⟩
   ·rw[(aa:b+1+c.length=b+c.length+1)];exact i.set _
   rw[mJ aa,i _ (bc _) aa,it m,Int.sub_zero,o,t];grind
  rintro _ ⟨a,rfl,aw,g,q,t⟩;simp only[aI (show¬((f.length:Z)<al f) by grind),bP];refine bu.2 ⟨a,bn,aw,g,?_⟩;grind
 rintro _ ⟨a,rfl,aw,g,q⟩;refine ae.of_eq (ai (oB g (by grind)) rfl) ?_;grind [ir]
theorem WD:∀a:X,a<256->qk Ed (a:Z)=Y (aN a:Z):=by have b:(bI 256).all (λa=>qk Ed (a:Z)==Y (aN a:Z))=bp:=(by decide+kernel);grind
theorem JM {x y:Z} (a:0<=y) (b:y<=32):eJ .u32 x y=Y (x/2^y.toNat):=by unfold eJ;rw[au a,show cc.bits=32 from rfl,hG aa,amF _ (by grind)]
def QD (b:0<=a) (c:a<=32):h2 .u32 d a=Y ((d*2^a.toNat) %4294967296):=by unfold h2;rw[au b,Kk,show cc.bits=32 from rfl,hG aa]
def aep (b:0<=a) (c:a<256):alH.wrap a=a:=by unfold ajF;refine(ax (ac:¬(bq&&br (a %256>=(128:Z)))=bp)).trans ?_;show a %256=a;omega
def Lu {n k:X} (a:2^k<=n):aN n=aN (n/2^k)+k:=by rw[ws];have:=sh.2 a;omega
theorem Ie {n:X} (g:n<4294967296):wO ((n:Z),())=Y ((aN n:Z),()):=by
 unfold wO;refine bQ.1 ?_;refine ae.aM (P:=λd=>∃a b:X,d=((a:Z),(b:Z),())/\a<65536/\aN n=aN a+b/\b<=16) ?_ ?_
 ·simp only[cQ];refine ae.ite (λe=>?_) λe=>?_
  ·rw[JM ab ab];refine bu.2 ⟨n/2^16,16,?_,aa,Lu aa,aa⟩;simp
  exact bu.2 ⟨n,0,bn,aa,bn,aa⟩
 rintro _ ⟨a,b,rfl,e,h,i⟩;refine ae.aM (P:=λd=>∃a b:X,d=((a:Z),(b:Z),())/\a<256/\aN n=aN a+b/\b<=24) ?_ ?_
 ·simp only[cQ];refine ae.ite (λc=>?_) λc=>?_
  ·rw[JM ab ab];refine bu.2 ⟨a/2^8,b+8,?_,aa,by have:=Lu (n:=a) (k:=8) aa;omega,aa⟩;grind [cr]
  grind [bu]
 rintro _ ⟨f,o,rfl,c,j,l⟩;dsimp only;rw[aep aa aa,WD f c];refine bu.2 ?_;have m:aN f<=8:=gj.2 aa;grind [cr]
theorem S8 {l:ahZ} {x:Z} (g:aQ l) (p:0<x):aN (ag l+aU l.length*x).toNat=32*l.length+aN x.toNat:=by
 obtain⟨b,rfl⟩:=fR (fu p);obtain⟨d,o⟩:=fR (e8 g);have f:=g5 g;rw[o] at f|-;have n:aU l.length=((2^(32*l.length):X):Z):=(by simp_all [alO,aU]);rw[n] at f|-;generalize 32*l.length=a at*;have h:0<b:=aa;have j:((d:Z)+((2^a:X):Z)*(b:Z)).toNat=d+2^a*b:=aa;show aN ((d:Z)+((2^a:X):Z)*(b:Z)).toNat=_;rw[j];obtain⟨e,i⟩:=ua h;have q:=pP h;obtain⟨c,m⟩:∃c,aN b=c+1:=⟨aN b-1,aa⟩;show _=a+aN b;rw[m] at e i|-;have r:d<2^a:=aa;refine Lt (k:=a+c) ?_ ?_
 ·rw[i7];have:=alN (2^a) e;grind
 rw[tR,i7] at*;have:=alN (2^a) (aa:b+1<=2^c*2);grind
theorem ND (d:aQ c) (h:e5 c) (k:c.length<=10000000):y8 (c,())=Y ((aN (ag c).toNat:Z),()):=by
 unfold y8;simp only[sX,cQ];split
 ·rename_i a;subst a;rfl
 rename_i a;have m:0<c.length:=yo.2 a;have aq:ay (al c-1)=((c.length-1:X):Z):=(by grind [cL,bh]);rw[aq,e3 aa];have e:=d.get (n:=c.length-1) aa;have i:c[c.length-1]≠0:=h _ (by rw[amL,ba aa]);have f:ag c=ag (c.take (c.length-1))+aU (c.length-1)*c[c.length-1]:=(by grind [it,ch]);have b:=S8 (l:=c.take (c.length-1)) (x:=c[c.length-1]) (d.take _) aa;rw[fU,hG aa,<-f] at b;rw[b];obtain⟨n,g⟩:=fR e.1;rw[g] at e|-;refine ai bn (ai (Ie (n:=n) aa) ?_);have j:aN n<=32:=gj.2 aa;grind [cL]
def wq (b:Fit a):sp (aS a,())=Y ((aN a.natAbs:Z),()):=by unfold sp;refine ai (Q6 b) (ai (ND (mr a) (DE a) (eD b ab)) ?_);rw[il];rfl
theorem WP (q:e=(2*l+1)*2^b) (m:e<2^32):e&&&(2^32-e)=2^b:=by
 have p:=jy b;have n:0<e:=(by grind);obtain⟨d,g⟩:∃d,e=d+1:=⟨e-1,aa⟩;have k:d=2^b*(2*l)+(2^b-1):=(by grind);have r:e=2^b*(2*l+1)+0:=(by grind);refine amM λa=>?_;rw[amN,g,Nat.testBit_two_pow_sub_succ aa,<-g];have aq:e.testBit a=if a<b then bq else(2*l+1).testBit (a-b):=by grind
 have i:d.testBit a=if a<b then(2^b-1).testBit a else(2*l).testBit (a-b):=by rw[k,Nat.testBit_two_pow_mul_add _ aa]
 rw[aq,i,alB];by_cases f:a<b
 ·grind
 rw[ax f,ax f];by_cases j:b=a
 ·subst j;have c:b<32:=by
   rcases cO b 32 with c|c
   ·exact c
   have:=tQ (ab:1<=2) c;omega
  grind
 obtain⟨h,o⟩:∃h,a-b=h+1:=⟨a-b-1,aa⟩;grind
theorem Tf:∀a:X,a<32->ao pQ (2^a*125613361 %4294967296/2^(27:Z).toNat)=Y (a:Z):=by have b:(bI 32).all (λa=>ao pQ (2^a*125613361 %4294967296/2^(27:Z).toNat)==Y (a:Z))=bp:=(by decide+kernel);grind
theorem Rf (e:0<b) (c:b<4294967296) (a:Z):dc (ey cc (b:Z) (dc (0-(b:Z)))*a)=2^cT b*a %4294967296:=by obtain⟨g,f⟩:=tu e;have aq:dc (0-(b:Z))=((2^32-b:X):Z):=(by grind [pk]);have d:((2^cT b:X):Z)=2^cT b:=ac;rw[aq,K3 c aa,WP f c,pk,d]
theorem Rg {n:X} (b:0<n) (a:n<4294967296):wP ((n:Z),())=Y ((cT n:Z),()):=by have e:cT n<32:=i6 (ts b) (gj.2 a);have d:=Tf _ e;have c:=JM (x:=dc (ey cc (n:Z) (dc (0-(n:Z)))*125613361)) (y:=27) ab ab;rw[Rf b a 125613361] at c;unfold wP;show(bif (n:Z)==0 then Y (32,()) else(eJ cc (dc (ey cc (n:Z) (dc (0-(n:Z)))*125613361)) 27).bind λf=>(ao pQ f).bind λg=>Y (ay g,()))=_;rw[a1 (by grind),Rf b a 125613361,c];refine ai bn (ai d ?_);grind [cL]
theorem Rh {x:Z} (r:ag (c.take b)=0) (g:b<c.length) (h:aQ c) (s:c[b]≠0):cT (ag c).toNat=32*b+cT (c[b]).toNat:=by
 have q:=h.get g;rw[oD c b aa,r,mI g];have p:=e8 (h.drop (b+1));generalize ag (c.drop (b+1))=u at*;generalize c[b]=v at*;obtain⟨d,rfl⟩:=fR q.1;obtain⟨e,rfl⟩:=fR p;have i:0<d:=aa;obtain⟨j,m⟩:=tu i;have t:cT d<32:=i6 (ts i) (gj.2 aa);have o:aU b=((2^(32*b):X):Z):=(by unfold aU;rw[alO];simp);have k:(0+aU b*((d:Z)+4294967296*(e:Z))).toNat=(d+4294967296*e)*2^(32*b):=(by rw[o,ajk,qD (d+4294967296*e)];have:((2^(32*b):X):Z)*((d:Z)+4294967296*(e:Z))=((2^(32*b)*(d+4294967296*e):X):Z):=(by rw[yj];simp);rw[this];rfl);show cT (0+aU b*((d:Z)+4294967296*(e:Z))).toNat=32*b+cT d;rw[k,Ka aa,ajQ];congr 1;obtain⟨f,n⟩:∃f,32=cT d+(f+1):=⟨31-cT d,aa⟩;refine x3 (a:=j+2^f*e) ?_;have l:(4294967296:X)=2^cT d*(2^f*2):=by
  have:(4294967296:X)=2^32:=rfl;rw[this]
  conv=>lhs;rw[n]
  rw[i7,tR]
 rw[l]
 conv=>lhs;lhs;rw[m]
 grind
def Ri {z:Z} (o:Fit z) (r:z≠0):y5 (aS z,())=Y ((cT z.natAbs:Z),()):=by
 unfold y5;dsimp only;have i:=mr z;have u:=il z;have s:(aS z).2.1.length<=31250:=o;generalize(aS z).2.1=b at*;have m:z.natAbs=(ag b).toNat:=aa;rw[m];refine bQ.1 (ae.aM (P:=λh=>match h with|.inl _=>b6|.inr p=>p=((cT (ag b).toNat:Z),())) ?_ ?_)
 ·refine ae.steps b.length (λa q=>q=((a:Z),())/\ag (b.take a)=0) ⟨bn,bn⟩ ?_ ?_
  ·rintro a _ f ⟨rfl,e⟩;have j:=i.get f;simp only[aK (show(a:Z)<al b by simp only[bh];omega),bG,e3 f,aC,fX];by_cases c:b[a]=0
   ·simp only[aK c,gR,bP];refine bu.2 ⟨by rw[bk aa],?_⟩;rw[it f,c,e];simp
   simp only[aI c,mh,bG];have k:=Rh (x:=0) e f i c;rw[k];obtain⟨d,l⟩:=fR j.1;rw[l] at j c|-;have t:cT d<32:=i6 (ts aa) (gj.2 aa);refine ae.of_eq (ai (Rg (n:=d) aa aa) rfl) ?_;show(ay (ay ((a:Z)*32)+(cT d:Z)),())=_;rw[cL (x:=(a:Z)*32) aa aa,cL aa aa];congr 1;show _=((32*a+cT d:X):Z);omega
  rintro _ ⟨rfl,e⟩;exfalso;rw[fG (bc _)] at e;omega
 rintro(h|h) g
 ·exact g.elim
 have g:h=_:=g;rw[g];exact bu.2 bn
theorem xP (a:X):((2^a:X):Z)=(2:Z)^a:=by simp
theorem jM (a:X):(0:Z)<2^a:=mM ab
theorem vl (a:b<=31):(2:Z)^b<=2147483648:=by have c:=tQ (ab:0<2) a;grind
def vk {p:X} (a:p<=32):(4294967296:Z)=2^p*2^(32-p):=by rw[<-lU,(aa:p+(32-p)=32)];rfl
theorem qq (a:X):aU a=2^(32*a):=by unfold aU;rw[Int.pow_mul];rfl
theorem aaP {k:X} {x y:Z} (j:k<=32) (e:0<=x) (f:x<2^k) (g:0<=y) (o:y<4294967296) (i:y %2^k=0):fN .u32 x y=x+y/\x+y<4294967296:=by
 have c:=jM k;have u:=vk j;have t:=jM (32-k);have s:y=2^k*(y/2^k):=(by have:=lT y (2^k);omega);have r:y/2^k<2^(32-k):=by
  rcases iV (y/2^k) (2^(32-k)) with b|b
  ·exact b
  have:=jO b (fu c);omega
 have q:2^k*(y/2^k+1)<=2^k*2^(32-k):=jO aa (fu c);have p:(2:Z)^k*(y/2^k+1)=2^k*(y/2^k)+2^k:=(by grind);have n:x+y<4294967296:=aa;refine⟨?_,n⟩;obtain⟨d,rfl⟩:=fR e;obtain⟨a,rfl⟩:=fR g;have m:d<2^k:=(by have:((d:X):Z)<((2^k:X):Z):=(by simpa using f);omega);have l:a %2^k=0:=(by have:((a %2^k:X):Z)=0:=(by simpa using i);omega);rw[aaN aa aa];have h:a=(a/2^k)*2^k:=(by have:=r3 a (2^k);rw[l,qD] at this;omega);rw[h,K7 k m];simp
theorem Kd {n:X} (F:aQ c) (am:c.length<=10000000) (V:n<=100000000):wL (c,(n:Z),())=Y (eQ (ag c*2^n).toNat,()):=by
 unfold wL;simp only[sX,cQ];split
 ·rename_i h;subst h;simp[ag];rfl
 refine bQ.1 ?_;obtain⟨a,e,K,ad,I,J⟩:∃a e:X,n=32*a+e/\e<32/\ki bK (n:Z) 32=some (a:Z)/\iC (n:Z) 32=some (e:Z):=by
  refine⟨n/32,n %32,aa,aa,?_,?_⟩
  ·unfold ki;rw[au ab,FK aa,cr aa aa];simp
  unfold iC;rw[au ab,FL aa];simp
 have l:=jM e;have E:=vk (p:=e) aa;have w:aP (ay ((a:Z)+al c))=((a+c.length+1:X):Z):=(by simp only[bh];rw[cL aa aa,(ac:(a:Z)+(c.length:Z)=((a+c.length:X):Z)),bk aa]);rw[I,J,aC,aC,w,h9 aa,aC];refine ae.aM (P:=λq=>∃d,q=(d,())/\d.length=a+c.length+1/\aQ d/\ag d=aU a*(2^e*ag c)) ?_ ?_
 ·refine ae.steps c.length (λb M=>∃d,M=((b:Z),d,())/\d.length=a+c.length+1/\aQ d/\iJ d (a+b+1)/\(∀h:a+b<d.length,d[a+b]<2^e)/\ag d=aU a*(2^e*ag (c.take b))) ⟨_,bn,ac,aQ.lQ _,iJ.lQ _ _,λh=>by simp;exact l,by simp[ag,pj]⟩ ?_ ?_
  ·rintro b _ m ⟨d,rfl,aw,g,i,t,o⟩;have s:=F.get m;have G:=g.get (n:=a+b) aa;have H:=t aa;dsimp only;rw[ca (show(b:Z)<al c by simp only[bh];omega),e3 m,bN];have aq:ay ((a:Z)+(b:Z))=((a+b:X):Z):=(by rw[cL aa aa];simp);have U:c[b]*2^e<4294967296*2^e:=akM s.2 l;have T:(2:Z)^e<=2147483648:=vl aa;obtain⟨f,r,N,O⟩:∃f,f=c[b]*2^e/\0<=f/\f<18446744073709551616:=⟨_,bn,akJ s.1 (ail l),aa⟩;have z:h2 bC (aL c[b]) (aL (e:Z))=Y f:=by
    rw[fq (x:=c[b]) aa aa,fq (x:=(e:Z)) aa aa,nQ aa aa,fC,<-r];congr 1;omega
   have A:f %4294967296 %2^e=0:=(by rw[amO _ ⟨_,E⟩,r,akN]);have B:f/4294967296<2^e:=(by refine rU ab ?_;rw[kQ];omega);obtain⟨C,R⟩:=aaP (k:=e) (x:=d[a+b]) (y:=f %4294967296) aa G.1 H aa aa A;rw[z];simp only[aC];rw[aq,js aa,rr N O,C,lO aa,m4,aC,bk aa,lh aa aa,lO (by simp;omega)];refine bu.2 ⟨(d.set (a+b) (d[a+b]+f %4294967296)).set (a+b+1) (f/4294967296),by rw[bk aa],by simp[aw],(g.set aa aa).set aa aa,?_,?_,?_⟩
   ·have:=(i.JL (d[a+b]+f %4294967296) (j:=a+b) aa).set (f/4294967296);exact this
   ·intro h;show((d.set (a+b) (d[a+b]+f %4294967296)).set (a+b+1) (f/4294967296))[a+b+1]'h<2^e
    rw[amP];exact B
   have Q:(d.set (a+b) (d[a+b]+f %4294967296))[a+b+1]'(by simp;omega)=0:=by rw[yn aa];exact i _ aa aa
   rw[mJ (by simp;omega),Q,mJ aa,o,it m,hV,tD];have S:=lT f 4294967296;generalize f/4294967296=L at*;generalize f %4294967296=q at*;generalize(2:Z)^e=u at*;generalize c[b]=v at*;generalize d[a+b]=an at*;have D:q=v*u-4294967296*L:=aa;subst D;grind
  rintro _ ⟨d,rfl,aw,g,i,t,o⟩;dsimp only;rw[ck (show¬((c.length:Z)<al c) by simp only[bh];omega)];refine bu.2 ⟨d,bn,aw,g,?_⟩;rw[o,ch (cj _)]
 rintro _ ⟨d,rfl,aw,g,i⟩;refine ae.of_eq (ai (oB g (by show d.length<=_;omega)) rfl) ?_;show(ir d,())=_;rw[ir,i,qq,K,lU];congr 3;grind
def TP (k:aQ c) (o:c.length<=10000000):zf (c,(),())=Y (br (ag c≠0),()):=by
 unfold zf;refine bQ.1 ?_;refine ae.aM (P:=λi=>∃g,i=(g,())/\(0<=g↔ag c≠0)) ?_ ?_
 ·unfold GX;dsimp only;refine ae.aM (P:=λd=>match d with|.inl _=>ag c=0|.inr i=>0<=i.1/\ag c≠0) ?_ ?_
  ·refine ae.steps c.length (λa m=>m=((a:Z),())/\ag (c.take a)=0) ⟨bn,bn⟩ ?_ ?_
   ·rintro a _ e ⟨rfl,b⟩;have l:=k.get e;simp only[aK (show(a:Z)<al c by simp only[bh];omega),bG,e3 e,aC,GK,fX];by_cases h:c[a]=0
    ·simp only[aK h,gR,bP];refine bu.2 ⟨by rw[bk aa],?_⟩;rw[it e,h,b];simp
    simp only[aI h,mh,bG];refine bu.2 ⟨by show(0:Z)<=(a:Z);omega,?_⟩;rw[oD c a aa,b,mI e];have j:=e8 (k.drop (a+1));have n:0<aU a*(c[a]+4294967296*ag (c.drop (a+1))):=qs (fQ a) aa;omega
   rintro _ ⟨rfl,b⟩;simp only[aI (show¬((c.length:Z)<al c) by simp only[bh];omega),bP];refine bu.2 ?_;rw[fG (bc _)] at b;exact b
  rintro(d|d) f
  ·have f:ag c=0:=f;exact bu.2 ⟨_,bn,by rw[f];simp⟩
  obtain⟨b,j⟩:0<=d.1/\ag c≠0:=f;exact bu.2 ⟨d.1,bn,λ_=>j,λ_=>b⟩
 rintro _ ⟨g,rfl,l⟩;refine bu.2 ?_;show(br (g>=0),())=_;congr 1;rw[cx];exact l
def K5 (b:X) (c:0<=a) (g:a<4294967296) (e:b<=32):ey .u32 a (2^b-1)=a %2^b:=by obtain⟨i,rfl⟩:=fR c;have f:0<2^b:=jy b;have d:(2:Z)^b-1=((2^b-1:X):Z):=(by rw[Int.natCast_sub f];simp);have h:2^b<=2^32:=tQ ab e;rw[d,K3 aa aa,alK];simp
def NO {x b y:Z} {P P':Z} (e:0<b) (f:0<=x/\x<b) (h:0<P):(x+b*y) %(b*P)=0↔x=0/\y %P=0:=by
 constructor
 ·intro a;have g:x=0:=by
   have c:(x+b*y) %b=0:=(by have:=amO (x+b*y) (show b∣b*P from⟨P,bn⟩);rw[a] at this;simpa using this.symm);rw[yi,rV f.1 f.2] at c;exact c
  subst g;rw[ajk,amQ _ _ e] at a;exact⟨bn,by rcases Int.mul_eq_zero.1 a with d|d;omega;exact d⟩
 rintro⟨rfl,a⟩;rw[ajk,amQ _ _ e,a,aj3]
theorem Mb {n:X} (i:aQ c) (bx:e5 c) (dl:c.length<=10000000) (cv:n<=1000000000):y7 (c,(n:Z),())=Y (eQ (ag c/2^n).toNat,br (ag c %2^n≠0),()):=by
 unfold y7;dsimp only;refine bQ.1 ?_;obtain⟨a,e,a4,c1,av,a3⟩:∃a e:X,n=32*a+e/\e<32/\ki bK (n:Z) 32=some (a:Z)/\iC (n:Z) 32=some (e:Z):=by
  refine⟨n/32,n %32,aa,aa,?_,?_⟩
  ·unfold ki;rw[au ab,FK aa,cr aa aa];simp
  unfold iC;rw[au ab,FL aa];simp
 have B:=jM e;have G:=vk (p:=e) aa;have ad:(2:Z)^n=aU a*2^e:=(by rw[qq,a4,lU]);have K:=e8 i;rw[av,a3,aC,aC,cQ,ad];refine ae.ite (λk=>?_) λk=>?_
 ·have k:c.length<=a:=(by simp only[bh] at k;omega);have m:=g5 i;have r:=pc k;have F:aU a*1<=aU a*2^e:=jO aa (fu (fQ a));rw[po K aa,rV K aa];refine bu.2 ?_;show(([]:ahZ),br (al c>0),())=(eQ 0,_,());rw[Hm];congr 2;rw[cx];simp only[bh];constructor
  ·intro o C;have:=e5.zero i bx C;rw[this] at o;simp at o
  intro o;have:c≠[]:=λO=>(by rw[O] at o;exact o bn);have:=yo.2 this;omega
 have k:a<c.length:=(by simp only[bh] at k;omega);have w:=i.get k;obtain⟨f,u⟩:∃f,f=ag (c.drop a):=⟨_,bn⟩;have H:0<=f:=(by rw[u];exact e8 (i.drop a));have J:ag c=ag (c.take a)+aU a*f:=(by rw[u];exact oD c a aa);have I:=e8 (i.take a);have E:=g5 (i.take a);rw[fU,hG aa] at E;have an:ag c/(aU a*2^e)=f/2^e:=(by rw[<-tG (fu (fQ a)),J,vS _ _ (by have:=fQ a;omega),po I E,ajk]);refine ae.aM (P:=λq=>q=(br (ag c %(aU a*2^e)≠0),())) ?_ ?_
 ·rw[Fh aa,aC];have aq:alP 0 (List.take a c)=c.take a:=lV;show ae ((zf (alP 0 (List.take a c),(),())).bind _) _;rw[aq,TP (i.take a) (by simp;omega),aC];have D:(br (ag c %(aU a*2^e)≠0))=(br (ag (c.take a)≠0)||br (c[a] %2^e≠0)):=by
   have m:=NO (x:=ag (c.take a)) (b:=aU a) (y:=f) (P:=2^e) (P':=0) (fQ a) ⟨I,E⟩ B;rw[<-J] at m;have r:f %2^e=c[a] %2^e:=(by rw[u,mI k,G,j5,yi]);rw[r] at m;by_cases A:ag (c.take a)=0<;>by_cases T:c[a] %2^e=0<;>simp[A,T,m]
  rw[D];dsimp only;by_cases A:ag (c.take a)=0
  ·simp only[aI (show¬(ag (c.take a)≠0) fromλk=>k A),aix,bG,e3 k,aC];rw[fq (x:=(e:Z)) aa aa,QD aa aa,aC,fC,aj4];have ce:(2:Z)^e<=2147483648:=vl aa;rw[rV aa aa,lh aa aa,K5 e w.1 w.2 aa,fX];refine bu.2 ?_;simp
  simp only[aK (show ag (c.take a)≠0 from A)];exact bu.2 bn
 rintro _ rfl;dsimp only;obtain⟨l,cs⟩:∃l,c.length=a+l:=⟨c.length-a,aa⟩;have Q:ay (al c-(a:Z))=((l:X):Z):=(by simp only[bh];rw[cL aa aa];omega);rw[Q,h9 aa,bN];have ci:f<aU l:=(by have:=g5 (i.drop a);rw[alu,(aa:c.length-a=l),<-u] at this;exact this);refine ae.aM (P:=λq=>∃g,q=(g,())/\g.length=l/\aQ g/\ag g=f/2^e) ?_ ?_
 ·refine ae.steps l (λd bs=>∃g,bs=((d:Z),g,())/\g.length=l/\aQ g/\ag (g.take d)+aU d*(f/2^e/aU d)=f/2^e) ⟨_,bn,ac,aQ.lQ _,by simp[ag,ya]⟩ ?_ ?_
  ·rintro d _ co ⟨g,rfl,aw,z,s⟩;have w:=i.get (n:=a+d) aa;have bl:=i.getD (a+d+1);have D:br ((d:Z)<al (bJ l (0:Z)))=bp:=aK (by simp only[bh,qC];omega);have aq:ay ((a:Z)+(d:Z))=((a+d:X):Z):=(by rw[cL aa aa];simp);have R:aP ((a+d:X):Z)=((a+d+1:X):Z):=bk aa;simp only[D,bG,aq,R,e3 (aa:a+d<c.length),aC];obtain⟨j,v,L,d0⟩:∃j,j=c[a+d]+4294967296*c.getD (a+d+1) 0/\0<=j/\j<18446744073709551616:=⟨_,bn,aa,aa⟩;have am:f/aU d=j+4294967296*(4294967296*ag (c.drop (a+d+2))):=by
    have m:c.drop a=(c.drop a).take d++c.drop (a+d):=by
     conv=>lhs;rw[<-kp d (c.drop a)]
     rw[qt]
    have r:f=ag ((c.drop a).take d)+aU d*ag (c.drop (a+d)):=by
     rw[u]
     conv=>lhs;rw[m]
     rw[md,fU,na,hG aa]
    have F:=e8 ((i.drop a).take d);have o:=g5 ((i.drop a).take d);rw[fU,na,hG aa] at o;have C:ag (c.drop (a+d))=c[a+d]+4294967296*ag (c.drop (a+d+1)):=mI aa;have U:ag (c.drop (a+d+1))=c.getD (a+d+1) 0+4294967296*ag (c.drop (a+d+2)):=by
     rcases cO (a+d+1) c.length with h|h
     ·rw[kc h];exact mI h
     rw[o4 h,nX h,nX aa];rfl
    rw[r,vS _ _ (by have:=fQ d;omega),po F o,C,U,v];grind
   have ap:f/2^e/aU d %4294967296=j/2^e %4294967296:=(by have m:f/2^e/aU d=f/aU d/2^e:=(by rw[tG (fu B),tG (fu (fQ d)),kQ]);rw[m,am];have r:∀t:Z,j+4294967296*(4294967296*t)=j+2^e*(4294967296*(2^(32-e)*t)):=λt=>(by generalize(2:Z)^e=M at*;generalize(2:Z)^(32-e)=N at*;rw[show(4294967296:Z)*(4294967296*t)=(M*N)*(4294967296*t) by rw[<-G]];grind);rw[r,vS _ _ aa,yi]);have a0:0<=j/2^e:=mi L (fu B);have c2:j/2^e<=j:=tH _ L;refine ae.aM (P:=λq=>q=(g.set d (j/2^e %4294967296),())) ?_ ?_
   ·refine ae.aM (P:=λq=>q=(j,g,())) ?_ ?_
    ·simp only[cQ];refine ae.ite (λh=>?_) λh=>?_
     ·have h:a+d+1<c.length:=(by simp only[bh] at h;omega);rw[e3 h,aC,fq (x:=c[a+d+1]) (by have:=i.get h;omega) (by have:=i.get h;omega),nQ ab ab];rw[kc h] at v bl;have S:c[a+d+1]*2^(32:Z).toNat %18446744073709551616=4294967296*c[a+d+1]:=by
       rw[show(2:Z)^(32:Z).toNat=4294967296 from rfl];omega
      rw[aC,S,fq aa aa,m1 32 w.1 w.2 aa aa aa aa];refine bu.2 ?_;rw[<-v]
     have h:c.length<=a+d+1:=(by simp only[bh] at h;omega);rw[o4 h] at v;rw[fq aa aa];refine bu.2 ?_;rw[v];simp
    rintro _ rfl;dsimp only;rw[fq (x:=(e:Z)) aa aa,tn aa aa,bN,aiA,rr a0 aa,lO aa];exact bu.2 bn
   rintro _ rfl;dsimp only;refine bu.2 ⟨g.set d (j/2^e %4294967296),by rw[bk aa],by simp[aw],z.set aa aa,?_⟩;rw[it (by simp;omega)];simp only[amP];rw[List.take_set_of_le aa,<-ap,hV,ai1 4294967296 (aU d),<-amR (ail (fQ d))];have V:=ajj (f/2^e/aU d) 4294967296;generalize f/2^e/aU d %4294967296=q at*;generalize f/2^e/aU d/4294967296=ds at*;rw[<-V] at s;grind
  rintro _ ⟨g,rfl,aw,z,s⟩;simp only[aI (show¬((l:Z)<al (bJ l (0:Z))) by simp only[bh,qC];omega),bP];refine bu.2 ⟨g,bn,aw,z,?_⟩;have m:0<=f/2^e:=mi H (fu B);have r:f/2^e<=f:=tH _ H;rw[po m aa,fG aa] at s;simpa using s
 rintro _ ⟨g,rfl,aw,z,s⟩;refine ae.of_eq (ai (oB z (by show g.length<=_;omega)) rfl) ?_;show(ir g,_,())=_;rw[ir,s,an]
section
theorem Ay (a:cu) (b c:Z):fN a b c=fN a c b:=by grind [BitVec.or_comm,fN]
theorem Ft {x y:Z} (b:0<=x/\x<4294967296) (a:0<=y/\y<4294967296):h2 .u64 x 32=Y (4294967296*x)/\fN .u64 (4294967296*x) (aL y)=4294967296*x+y:=by
 constructor
 ·grind [nQ]
 rw[fq a.1 aa,Ay,m1 32 a.1 a.2 aa aa aa aa,akK]
theorem EW {x y:Z} (a:0<=x/\x<18446744073709551616) (c:0<y):ki .u64 x y=Y (x/y)/\iC x y=Y (x %y):=by
 constructor
 ·unfold ki;rw[au aa,FK a.1];have b:x/y<=x:=tH _ a.1;grind [tx,aiT]
 unfold iC;grind
theorem acT (l:aQ c) (J:c.length<=10000000) (g:0<a) (F:a<4294967296):Cd (c,a,())=Y (eQ (ag c/a).toNat,ag c %a,()):=by
 unfold Cd;refine bQ.1 ?_;simp only[bh,h9 (aa:c.length<=4294967296),aC];refine ae.aM (P:=λt=>∃d,t=(ag c %a,d,())/\d.length=c.length/\aQ d/\ag d=ag c/a) ?_ ?_
 ·refine ae.steps c.length (λf u=>∃d,u=(ag (c.drop (c.length-f)) %a,((c.length:X):Z)-1-f,d,())/\d.length=c.length/\aQ d/\(∀b,b<c.length-f->(q:b<d.length)->d[b]=0)/\ag d=aU (c.length-f)*(ag (c.drop (c.length-f))/a)) ⟨bJ c.length 0,?_,ac,aQ.lQ _,ac,?_⟩ ?_ ?_
  ·rw[cL aa aa,nX aa];simp[ag]
  ·simp_all [pj,nX,ag]
  ·rintro f _ G ⟨d,rfl,aw,h,i,j⟩;obtain⟨b,q⟩:∃b,c.length=b+1+f:=⟨c.length-1-f,aa⟩;have aq:((c.length:X):Z)-1-(f:Z)=(b:Z):=aa;have p:b<c.length:=aa;rw[(aa:c.length-f=b+1)] at*;have s:=l.get p;obtain⟨e,k⟩:∃e,e=ag (c.drop (b+1)):=⟨_,bn⟩;have D:0<=e:=(by rw[k];exact e8 (l.drop _));rw[<-k] at j|-;have r:0<=e %a:=nV _ aa;have H:e %a<a:=pp _ g;obtain⟨v,w⟩:=Ft (x:=e %a) (y:=c[b]) ⟨r,aa⟩ s;obtain⟨z,A⟩:=EW (x:=4294967296*(e %a)+c[b]) (y:=a) ⟨aa,aa⟩ g;have n:(4294967296*(e %a)+c[b])/a<4294967296:=by
    refine rU g ?_;omega
   have o:0<=(4294967296*(e %a)+c[b])/a:=mi aa aa;simp only[aq,aK (aa:(b:Z)>=0),bG,e3 p,v,aC];rw[w,fq (x:=a) aa aa,z,aC,lh o n,lO aa,A,aC];have E:=lT e a;have I:ag (c.drop b)=c[b]+4294967296*e:=(by grind [mI]);have m:ag (c.drop b)=(4294967296*(e %a)+c[b])+a*(4294967296*(e/a)):=(by grind);refine bu.2 ⟨d.set b ((4294967296*(e %a)+c[b])/a),?_,by grind,h.set o n,?_,?_⟩
   ·rw[(aa:c.length-(f+1)=b),cL aa aa,m,yi];grind
   ·grind
   rw[(aa:c.length-(f+1)=b),m,vS _ _ aa,mJ aa,i b aa aa,j,hV];grind
  rintro _ ⟨d,rfl,aw,h,i,j⟩;have aq:¬(((c.length:X):Z)-1-(c.length:Z)>=0):=aa;simp_all [ya,bu,oM,aI,bP]
 rintro _ ⟨d,rfl,aw,h,i⟩;have C:ag c %a<a:=pp _ g;have B:0<=ag c %a:=nV _ aa;refine ae.of_eq (ai (oB h (by grind)) rfl) ?_;show(ir d,dc (ag c %a),())=_;grind [lh,ir]
section
variable {α B:Type}
theorem qP {c a e:bm α} (f:b<a.length) (d:α->bv B):a9 (c++(a++e)) (c.length+b) d=d a[b]:=by simp_all [pz,r2,qx,ba,gq]
def AY {a c d:bm α} (f:b<c.length) (e:α):(a++(c++d)).set (a.length+b) e=a++(c.set b e++d):=by rw[akO _ _ aa,r2,List.set_append_left _ _ f]
end
theorem Uw {v1 fw e f b c g:Z} (s:0<d) (r:e=(v1*4294967296+fw)*d+p) (o:f=(b*4294967296+c)*d+g) (j:0<=p) (q:g<d) (h:0<=a) (k:(b-a*v1)*4294967296+c<a*fw):f<a*e:=by have i:b*4294967296+c+1<=a*(v1*4294967296+fw):=(by grind);have l:(b*4294967296+c+1)*d<=a*(v1*4294967296+fw)*d:=m8 i aa;have m:0<=a*p:=m9 h j;have n:a*e=a*(v1*4294967296+fw)*d+a*p:=(by grind);grind
theorem Ux {v1 fw b f c e g:Z} (u:0<d) (s:b=(v1*4294967296+fw)*d+p) (q:f=(c*4294967296+e)*d+g) (t:0<=p/\p<d) (r:0<=g) (h:0<=a/\a<4294967296) (v:1<=v1) (w:0<=fw) (j:a*fw<=(c-a*v1)*4294967296+e):a*b<f+b:=by have i:a*(v1*4294967296+fw)<=c*4294967296+e:=(by grind);have k:a*(v1*4294967296+fw)*d<=(c*4294967296+e)*d:=m8 i aa;have l:a*p<=a*d:=jO aa h.1;have m:a*b=a*(v1*4294967296+fw)*d+a*p:=(by grind);have n:a*d<=4294967295*d:=m8 aa aa;have o:4294967296*d<=(v1*4294967296+fw)*d:=m8 aa aa;omega
end
theorem FC (a:c.length=b+2):ag c=(c[b+1]*4294967296+c[b])*aU b+ag (c.take b):=by grind [it,hV,ch]
theorem ad5 (a:c.length=b+3):ag c=((c[b+2]*4294967296+c[b+1])*4294967296+c[b])*aU b+ag (c.take b):=by grind [hV,it,ch]
structure yc (v w:ahZ) (n:X):Prop where
 hv:aQ v
 hw:aQ w
 FE:v.length=n+2
 wn:w.length=n+3
 Ol:n<=10000000
 top:2147483648<=v[n+1]
 lt:ag w<4294967296*ag v
theorem yc.Rr {n:X} (a:yc c f n):0<ag c:=by
 have b:=FC a.FE;have d:=e8 (a.hv.take n);have e:=a.hv.get (n:=n) (by grind);have g:=a.top;have h:0<(c[n+1]'(by grind)*4294967296+c[n]'(by grind))*aU n:=qs aa (fQ n)
 omega
theorem Uy {g j:ahZ} {n:X} (h:yc f c n) (r:a=(4294967296*c[n+2]'(by have:=h.wn;omega)+c[n+1]'(by have:=h.wn;omega))/f[n+1]'(by have:=h.FE;omega)) (ci:d=(4294967296*c[n+2]'(by grind)+c[n+1]'(by grind)) %f[n+1]'(by grind)):ae (loop (σ:=(ep×Z×Z×bf×bt)) (ρ:=(ep×Z×bf×bt)) (λ(l,o,B,t,_)=>
 bB (α:=(ep×bf×bt)⊕((ep×Z×Z×bf×bt)⊕(ep×Z×bf×bt))) (bif br (o>4294967295)==bq then(ao f (ay (al f-2))).bind λd2=>
 (h2 bC B 32).bind λd3=>
 (bj (l.2-l.1) (ay (al f-2))).bind λdl=>
 (a9 t (l.1+dl) λam=>Y am).bind λd4=>
  bif br (aL (o*aL d2)>fN bC d3 (aL d4)) then
 Y (.inl (l,t,())) else
 Y (.inr (.inr (l,o,t,()))) else Y (.inl (l,t,()))) λb=>match b with
 |.inl (O,P,_)=>(
 (ao f (ay (al f-1))).bind λp=>
  bif br (aL (B+aL p)>4294967295) then
 Y (.inr (O,aL (o-1),P,())) else
 Y (.inl (O,aL (o-1),aL (B+aL p),P,())))
 |.inr i=>Y i) ((g.length,g.length+c.length),a,d,g++(c++j),())) (λi=>∃b,i=((g.length,g.length+c.length),b,g++(c++j),())/\0<=b/\b<4294967296/\ag c/ag f<=b/\b*ag f<ag c+ag f):=by
 have c1:=h.FE;have c2:=h.wn;have fp:=h.Ol;have bl:=h.Rr;have f7:=h.hv.get (n:=n+1) aa;have s:=h.hv.get (n:=n) aa;have f0:=h.hw.get (n:=n+2) aa;have f1:=h.hw.get (n:=n+1) aa;have cv:=h.hw.get (n:=n) aa;have fT:=h.top;have K:=FC c1;have w:=ad5 c2;have E:=e8 (h.hv.take n);have F:=g5 (h.hv.take n);have R:=e8 (h.hw.take n);have G:=g5 (h.hw.take n);rw[fU,hG aa] at F G;have bx:=h.lt;have z:=fQ n;have aq:ay (al f-1)=((n+1:X):Z):=(by grind [cL,bh]);have ad:ay (al f-2)=((n:X):Z):=(by grind [cL,bh]);have ap:ao f ((n+1:X):Z)=Y f[n+1]:=e3 aa;have av:ao f ((n:X):Z)=Y f[n]:=e3 aa;have a0:∀q:Z->ahT,a9 (g++(c++j)) (g.length+n) q=q c[n]:=λq=>qP aa q;generalize f2:f[n+1]=v1 at*;generalize f3:f[n]=fw at*;generalize f4:c[n+2]=D at*;generalize f5:c[n+1]=d1 at*;generalize f6:c[n]=k at*;obtain⟨e,co⟩:∃e,e=4294967296*D+d1:=⟨_,bn⟩;rw[<-co] at r ci;have w:ag c=(e*4294967296+k)*aU n+ag (c.take n):=(by grind);have ex:D<=v1:=by
  rcases iV v1 D with m|m
  ·exfalso;have S:(v1*4294967296+fw+1)*aU n<=(v1*4294967296+4294967296)*aU n:=m8 aa aa;have H:((v1+1)*4294967296*4294967296)*aU n<=(e*4294967296+k)*aU n:=m8 aa aa;grind
  omega
 have el:0<=ag c/ag f:=mi (e8 h.hw) aa;have em:ag c/ag f<4294967296:=rU bl bx;have cs:0<=e:=aa;have eq:=lT e v1;have ft:0<=e %v1:=nV _ aa;have fz:e %v1<v1:=pp _ aa;have fs:0<=e/v1:=mi cs aa;have T:∀b,0<=b->(e-b*v1)*4294967296+k<b*fw->ag c/ag f<b:=λb r h=>(by have:=Uw z K w E G r h;simp_all [rU]);have an:∀b,0<=b->b<4294967296->b*fw<=(e-b*v1)*4294967296+k->b*ag f<ag c+ag f:=λb a3 a4 h=>Ux z K w ⟨E,F⟩ R ⟨a3,a4⟩ aa s.1 h;refine aik (λC=>∃b i,C=((g.length,g.length+c.length),b,i,g++(c++j),())/\0<=b/\b<=4294967297/\0<=i/\i<4294967296/\i=e-b*v1/\ag c/ag f<=b) (λC=>C.2.1.toNat) ⟨a,d,bn,aa,?_,aa,aa,?_,?_⟩ ?_
 ·rw[r];have:e<4294967298*v1:=aa;have:=rU aa this;omega
 ·grind
 ·rcases iV (e/v1) (ag c/ag f) with m|m
  ·exfalso;have S:(e/v1+1)*ag f<=ag c:=by
    have v:(e/v1+1)*ag f<=ag c/ag f*ag f:=m8 aa aa;have U:=lT (ag c) (ag f);have I:=nV (ag c) (aa:ag f≠0);grind
   have H:(e+1)*4294967296<=(e/v1+1)*(v1*4294967296):=(by grind);have d5:(e+1)*4294967296*aU n<=(e/v1+1)*(v1*4294967296)*aU n:=m8 H aa;have d6:0<=(e/v1+1)*(fw*aU n+ag (f.take n)):=m9 aa (by have:=m9 s.1 (fu z);omega);have d7:(e/v1+1)*ag f=(e/v1+1)*(v1*4294967296)*aU n+(e/v1+1)*(fw*aU n+ag (f.take n)):=(by grind);have d8:(k+1)*aU n<=4294967296*aU n:=m8 aa aa;grind
  omega
 rintro _ ⟨b,i,rfl,v,U,I,V,d9,ek⟩;have ce:∀b,(b-1)*v1=b*v1-v1:=λb=>(by grind);have J:ag c/ag f<b->ae ((ao f (ay (al f-1))).bind λp=>
  bif br (aL (i+aL p)>4294967295) then
 Y (.inr ((g.length,g.length+c.length),aL (b-1),g++(c++j),())) else
 Y (
  .inl ((g.length,g.length+c.length),aL (b-1),aL (i+aL p),g++(c++j),()))) (λ(Q:(ep×Z×Z×bf×bt)⊕(ep×Z×bf×bt))=>match Q with
  |.inl N=>(∃b i,N=((g.length,g.length+c.length),b,i,g++(c++j),())/\0<=b/\b<=4294967297/\0<=i/\i<4294967296/\i=e-b*v1/\ag c/ag f<=b)/\N.2.1.toNat<b.toNat
  |.inr i=>∃b,i=((g.length,g.length+c.length),b,g++(c++j),())/\0<=b/\b<4294967296/\ag c/ag f<=b/\b*ag f<ag c+ag f):=by
  intro fl;rw[aq,ap,aC,fq (x:=v1) aa aa,fq (x:=i+v1) aa aa,fq (x:=b-1) aa aa,cQ];refine ae.ite (λm=>?_) λm=>?_
  ·refine bu.2 ⟨b-1,bn,aa,?_,aa,?_⟩
   ·grind
   have bs:b-1<4294967296:=(by grind);refine an (b-1) aa bs ?_;rw[ce];have f8:(b-1)*fw<=4294967295*fw:=m8 aa s.1;omega
  refine bu.2 ⟨⟨b-1,i+v1,bn,aa,aa,aa,aa,?_,aa⟩,?_⟩
  ·grind
  show(b-1).toNat<b.toNat;omega
 by_cases L:b>4294967295
 ·simp only[aK L,show(bp==bq)=bq from rfl,bP,aC];refine(J aa).mono ?_;rintro(u|u) A
  ·exact A
  omega
 simp only[aI L,aix,bG,ad,av,aC];obtain⟨ds,d0⟩:=Ft (x:=i) (y:=k) ⟨I,V⟩ cv;have fn:=Aj (x:=b) (y:=fw) ⟨v,aa⟩ s;rw[ds,aC];simp only[r2,eS (aa:n<c.length),aC,a0,d0];rw[fq (x:=fw) aa aa,fq (x:=b*fw) aa aa];by_cases M:b*fw>4294967296*i+k
 ·simp only[aK M,bG,aC];refine(J (T b v aa)).mono ?_;rintro(u|u) A
  ·exact A
  omega
 simp only[aI M,bP,aC];grind [bu]
theorem adm {i s:ahZ} (L:aQ c) (M:aQ f) (a4:c.length<f.length) (ap:f.length<=100000000) (K:0<=a/\a<4294967296) (av:∀g e b,b.length=f.length->aQ b->(∀(D:c.length<b.length) (m:c.length<f.length),b[c.length]=f[c.length])->0<=g->g<4294967296->0<=e->e<=1->ag b-aU c.length*(g+e)=ag f-a*ag c->r ((i.length,i.length+f.length),g,e,i++(b++s),())):ae (loop (σ:=(ep×Z×Z×Z×bf×bt)) (ρ:=(ep×Z×Z×bf×bt)) (λ(j,p,t,o,q,_)=>
 bif br (o<al c) then
 (ao c o).bind λv=>
 (eJ bC (aL (aL (a*aL v)+p)) 32).bind λU=>
 (bj (j.2-j.1) o).bind λP=>
 (a9 q (j.1+P) λC=>Y C).bind λA=>
 (bj (j.2-j.1) o).bind λz=>
 (a9 q (j.1+z) λ_=>Y (q.set (j.1+z) (dc (ey bC (aL (aL (aL A-ey bC (aL (aL (a*aL v)+p)) 4294967295)-t)) 4294967295)))).bind λad=>
 (eJ bC (aL (aL (aL A-ey bC (aL (aL (a*aL v)+p)) 4294967295)-t)) 32).bind λV=>
 Y (.inl (j,U,ey bC V 1,aP o,ad,())) else
 Y (.inr (j,p,t,q,()))) ((i.length,i.length+f.length),0,0,0,i++(f++s),())) r:=by
 refine ae.steps c.length (λd T=>∃g e b,T=((i.length,i.length+f.length),g,e,(d:Z),i++(b++s),())/\b.length=f.length/\aQ b/\(∀l,d<=l->(D:l<b.length)->(m:l<f.length)->b[l]=f[l])/\0<=g/\g<4294967296/\0<=e/\e<=1/\ag b-aU d*(g+e)=ag f-a*ag (c.take d)) ⟨0,0,f,bn,bn,M,λ_ _ _ _=>rfl,aa,aa,aa,aa,by simp[ag]⟩ ?_ ?_
 ·rintro d _ u ⟨g,e,b,rfl,w,m,y,E,F,G,H,I⟩;have N:=L.get u;have bl:=m.get (n:=d) aa;have a3:=Aj K N;obtain⟨k,J,Q,R⟩:∃k,k=a*c[d]+g/\0<=k/\k<18446744073709551616:=⟨_,bn,aa,aa⟩;simp only[aK (show(d:Z)<al c by grind),bG,e3 u,aC];have aq:aL (aL (a*aL c[d])+g)=k:=by
   rw[fq (x:=c[d]) aa aa,fq (x:=a*c[d]) aa aa,<-J,fq Q R]
  rw[aq];obtain⟨h,a0,am,an⟩:∃h,h=b[d]-k %4294967296-e/\-4294967296<=h/\h<4294967296:=⟨_,bn,aa,aa⟩;have B:aL (aL (aL b[d]-ey bC k 4294967295)-e)=h %18446744073709551616:=(by simp_all [and_low32,rP]);have aw:h %18446744073709551616/4294967296 %2^1=-(h/4294967296):=aa;have S:h %18446744073709551616 %4294967296=h %4294967296:=aa;simp only[m4,r2,eS (aa:d<f.length),aC,qP (aa:d<b.length),B,rr (aa:0<=h %18446744073709551616) aa,AY (aa:d<b.length)];rw[sa 1 aa aa 1 ab ab,aw,S];refine bu.2 ⟨k/4294967296,-(h/4294967296),b.set d (h %4294967296),by rw[bk aa],by simp[w],m.set aa aa,?_,aa,aa,aa,aa,?_⟩
  ·intro l bs bx O;rw[yn aa];exact y l aa aa O
  rw[mJ aa,hV,it u];grind
 rintro _ ⟨g,e,b,rfl,w,m,y,E,F,G,H,I⟩;simp_all [bu,bc,fG,aI,bh,bP,al]
theorem SA {e m:ahZ} (C:aQ f) (D:aQ c) (L:f.length<c.length) (J:c.length<=100000000) (K:∀d a,a.length=c.length->aQ a->(∀(w:f.length<a.length) (i:f.length<c.length),a[f.length]=c[f.length])->0<=d->d<=1->ag a+aU f.length*d=ag c+ag f->s ((e.length,e.length+c.length),d,e++(a++m),())):ae (loop (σ:=(ep×Z×Z×bf×bt)) (ρ:=(ep×Z×bf×bt)) (λ(g,o,k,l,_)=>
 bif br (k<al f) then
 (ao f k).bind λr=>
 (bj (g.2-g.1) k).bind λE=>
 (a9 l (g.1+E) λv=>Y v).bind λt=>
 (bj (g.2-g.1) k).bind λq=>
 (a9 l (g.1+q) λ_=>Y (l.set (g.1+q) (dc (ey bC (aL (aL (aL t+aL r)+o)) 4294967295)))).bind λI=>
 (eJ bC (aL (aL (aL t+aL r)+o)) 32).bind λH=>
 Y (.inl (g,H,aP k,I,())) else
 Y (.inr (g,o,l,()))) ((e.length,e.length+c.length),0,0,e++(c++m),())) s:=by
 refine ae.steps f.length (λb F=>∃d a,F=((e.length,e.length+c.length),d,(b:Z),e++(a++m),())/\a.length=c.length/\aQ a/\(∀j,b<=j->(w:j<a.length)->(i:j<c.length)->a[j]=c[j])/\0<=d/\d<=1/\ag a+aU b*d=ag c+ag (f.take b)) ⟨0,c,bn,bn,D,λ_ _ _ _=>rfl,aa,aa,by simp[ag]⟩ ?_ ?_
 ·rintro b _ p ⟨d,a,rfl,x,i,y,z,A,B⟩;have N:=C.get p;have O:=i.get (n:=b) aa;obtain⟨h,M,G,P⟩:∃h,h=a[b]+f[b]+d/\0<=h/\h<8589934592:=⟨_,bn,aa,aa⟩;simp only[aK (show(b:Z)<al f by grind),bG,e3 p,aC];have u:aL (aL (aL a[b]+aL f[b])+d)=h:=by
   grind [fq]
  simp only[m4,r2,eS (aa:b<c.length),aC,qP (aa:b<a.length),u,rr G (aa:h<18446744073709551616),AY (aa:b<a.length)];refine bu.2 ⟨h/4294967296,a.set b (h %4294967296),by rw[bk aa],by grind,i.set aa aa,?_,aa,aa,?_⟩
  ·grind
  grind [mJ,hV,it,ajj]
 rintro _ ⟨d,a,rfl,x,i,y,z,A,B⟩;simp_all [bu,bc,fG,aI,bh,bP,al]
theorem TX {b e g c h f:Z} (j:b+a*e=p+d) (i:p=c-g*d-a*(4294967296*-1)):b+a*(h+e-4294967296*f-h)=c-(g-1)*d+a*(4294967296*(1-f)):=by grind
theorem TY {e c g b h f:Z} (i:d-a*(e+c)=p-g*b):d+a*(h-e-c-4294967296*f-h)=p-g*b-a*(4294967296*f):=by grind
theorem ae.bs {c:bv h} {b:h->bv o} {a:o->Prop} {y:h} (d:c=Y y) (e:ae (b y) a):ae (c.bind b) a:=by grind
theorem TZ {A C:ahZ} {n:X} (i:yc c f n):ae (y6 ((A++(f++C),A.length,A.length+f.length),c,())) (λq=>∃b,q=(A++(b++C),ag f/ag c,())/\b.length=f.length/\aQ b/\ag b=ag f %ag c):=by
 have H:=i.FE;have ds:=i.wn;have fl:=i.Ol;have k:=i.Rr;have a4:=e8 i.hw;have fp:=i.top;have Q:=i.hv.get (n:=n+1) aa;have O:=i.hw.get (n:=n+2) aa;have c2:=i.hw.get (n:=n+1) aa;have D:al c=((n+2:X):Z):=(by simp only[bh];omega);have aq:ay (((n+2:X):Z)-1)=((n+1:X):Z):=(by rw[cL aa aa];omega);have a0:ao c ((n+1:X):Z)=Y c[n+1]:=e3 aa;obtain⟨d0,ap⟩:=Ft (x:=f[n+2]) (y:=f[n+1]) O c2;obtain⟨d1,d2⟩:=EW (x:=4294967296*f[n+2]+f[n+1]) (y:=c[n+1]) ⟨aa,aa⟩ aa;unfold y6;have m:bj (A.length+f.length-A.length) (al c)=Y (n+2):=(by rw[r2,D];exact eS aa);have i1:bj (A.length+f.length-A.length) (ay (al c-1))=Y (n+1):=(by rw[r2,D,aq];exact eS aa);have R:ao c (ay (al c-1))=Y c[n+1]:=(by rw[D,aq];exact a0);refine ae.bs m (ae.bs (qP aa _) (ae.bs (by rw[fq O.1 aa];exact d0) (ae.bs i1 (ae.bs (qP aa _) (ae.bs R (ae.bs (by rw[ap,fq Q.1 aa];exact d1) (ae.bs R (ae.bs (by rw[ap,fq Q.1 aa];exact d2) ?_))))))));refine ae.aM (Uy i bn rfl) ?_;rintro _ ⟨g,rfl,an,aw,fT,f0⟩;refine ae.aM (P:=λq=>∃e j b,q=((A.length,A.length+f.length),e,j,A++(b++C),())/\b.length=f.length/\aQ b/\0<=e/\e<4294967296/\0<=j/\j<=1/\(∀(i:c.length<b.length) (L:c.length<f.length),b[c.length]=f[c.length])/\ag b-aU c.length*(e+j)=ag f-g*ag c) (adm i.hv i.hw aa aa ⟨an,aw⟩ λe j b p v T U V ad am w=>⟨e,j,b,bn,p,v,U,V,ad,am,T,w⟩) ?_;rintro _ ⟨e,j,b,rfl,p,v,U,V,ad,am,T,w⟩;have fs:=v.get (n:=n+2) aa;obtain⟨d,bl,d5,d6⟩:∃d,d=b[n+2]-e-j/\-4294967296<=d/\d<4294967296:=⟨_,bn,aa,aa⟩;have K:aL (aL (aL b[n+2]-e)-j)=d %18446744073709551616:=(by rw[rP,rP,rP,bl];omega);have d3:d %18446744073709551616/4294967296 %2^1=-(d/4294967296):=(by rw[show(2:Z)^1=2 from rfl];omega);have d4:d %18446744073709551616 %4294967296=d %4294967296:=aa;refine ae.bs m (ae.bs (qP aa _) (ae.bs m (ae.bs (y:=A++(b.set (n+2) (d %4294967296)++C)) ?_ (ae.bs (y:=d %18446744073709551616/4294967296) ?_ ?_))))
 ·rw[qP aa,K,rr aa aa,AY aa,d4]
 ·rw[K,m4]
 rw[sa 1 aa aa 1 ab ab,d3];have ek:=fQ (n+2);have cv:ag (b.set (n+2) (d %4294967296))=ag b+aU (n+2)*(d %4294967296-b[n+2]):=mJ aa _;have r:aQ (b.set (n+2) (d %4294967296)):=v.set aa aa;rw[H] at w;have d7:=lT d 4294967296;have s:ag (b.set (n+2) (d %4294967296))=ag f-g*ag c-aU (n+2)*(4294967296*(d/4294967296)):=(by rw[cv];generalize d/4294967296=z at*;generalize d %4294967296=B at*;have:B=b[n+2]-e-j-4294967296*z:=aa;rw[this];exact TY w);have ci:=g5 r;have el:=e8 r;rw[aj5,p,ds,(aa:n+3=(n+2)+1),hV] at ci;have M:=lT (ag f) (ag c);have eq:=nV (ag f) (aa:ag c≠0);have ex:=pp (ag f) k;rw[gD,cQ];refine ae.ite (λav=>?_) λav=>?_
 ·have F:d/4294967296=0:=aa;rw[F] at s;have l:ag f/ag c=g:=by
   have E:g*ag c<=ag f:=aa;have L:g<=ag f/ag c:=(akP k).2 E;omega
  rw[aY (by simp;omega),lh an aw];refine bu.2 ⟨_,by rw[l],by simp[p],r,?_⟩;rw[s];rw[l] at M;rw[kQ g];omega
 have F:d/4294967296=-1:=aa;rw[F] at s;have l:ag f/ag c=g-1:=(by have E:ag f<g*ag c:=aa;have L:ag f/ag c<g:=rU k E;have d8:(g-1)*ag c<ag f+1:=(by have:(g-1)*ag c=g*ag c-ag c:=(by grind);omega);have d9:g-1<=ag f/ag c:=(akP k).2 aa;omega);have fn:=mi a4 (fu k);have G:(b.set (n+2) (d %4294967296)).length=f.length:=(by simp[p]);rw[<-G];refine ae.aM (P:=λq=>∃e a,q=((A.length,A.length+(b.set (n+2) (d %4294967296)).length),e,A++(a++C),())/\a.length=f.length/\aQ a/\0<=e/\e<=1/\ag a+aU c.length*e=ag (b.set (n+2) (d %4294967296))+ag c) (SA i.hv r aa aa λe a I o fz J S u=>⟨e,a,bn,by rw[I,G],o,J,S,u⟩) ?_;rintro _ ⟨h,a,rfl,I,o,J,S,u⟩;rw[G];have ft:=o.get (n:=n+2) aa;refine ae.bs m (ae.bs (qP aa _) (ae.bs m (ae.bs (y:=A++(a.set (n+2) ((a[n+2]+h) %4294967296)++C)) ?_ ?_)))
 ·rw[qP aa,AY aa,lh J aa,pk]
 rw[aY (by simp;omega),fq aa aa,lh aa aa];refine bu.2 ⟨a.set (n+2) ((a[n+2]+h) %4294967296),by rw[l],by simp[I],o.set aa aa,?_⟩;have c1:ag (a.set (n+2) ((a[n+2]+h) %4294967296))=ag a+aU (n+2)*((a[n+2]+h) %4294967296-a[n+2]):=mJ aa _;have N:aQ (a.set (n+2) ((a[n+2]+h) %4294967296)):=o.set aa aa;have co:=g5 N;have em:=e8 N;have ce:(a.set (n+2) ((a[n+2]+h) %4294967296)).length=(n+2)+1:=(by rw[aj5];omega);rw[ce,hV] at co;have f2:=lT (a[n+2]+h) 4294967296;rw[H] at u;have t:ag (a.set (n+2) ((a[n+2]+h) %4294967296))=ag f-(g-1)*ag c+aU (n+2)*(4294967296*(1-(a[n+2]+h)/4294967296)):=(by rw[c1];generalize(a[n+2]+h)/4294967296=z at*;generalize(a[n+2]+h) %4294967296=B at*;have:B=a[n+2]+h-4294967296*z:=aa;rw[this];exact TX u s);rw[l] at M;have bx:ag f-(g-1)*ag c=ag f %ag c:=(by rw[kQ (g-1)];omega);rw[bx] at t;have dl:=g5 i.hv;rw[H] at dl;have cs:(a[n+2]+h)/4294967296=1:=by
  rcases iV 0 ((a[n+2]+h)/4294967296) with a3|a3
  ·omega
  exfalso;have:(a[n+2]+h)/4294967296=0:=aa;rw[this] at t;omega
 rw[cs] at t;rw[t];simp
theorem uQ (b:0<=a):ag (eQ a.toNat)=a:=by grind [sF]
def XH {n:X} (f:aQ c) (m:e5 c) (u:c.length=n+2):∃d:X,d<=31/\ux (c[n+1],())=Y ((d:Z),())/\ag c*2^d<aU (n+2)/\2147483648*aU (n+1)<=ag c*2^d:=by
 have l:=f.get (n:=n+1) aa;have q:c[n+1]≠0:=m _ (by rw[amL,ba aa];congr 2;omega);have h:ag c=ag (c.take (n+1))+aU (n+1)*c[n+1]:=(by rw[<-it aa,fG aa]);have r:=e8 (f.take (n+1));have j:=g5 (f.take (n+1));rw[fU,hG aa] at j;generalize c[n+1]=v at*;obtain⟨a,rfl⟩:=fR l.1;have i:0<a:=aa;have t:aN a<=32:=gj.2 aa;have s:=pP i;obtain⟨g,o⟩:=ua i;obtain⟨b,k⟩:∃b,aN a=b+1:=⟨aN a-1,aa⟩;refine⟨32-aN a,aa,?_,?_,?_⟩
 ·unfold ux;refine ai (Ie (n:=a) aa) ?_;show Y (ay (32-(aN a:Z)),())=_;rw[cL aa aa];congr 2;omega
 ·have aq:ag c<aU (n+1)*2^aN a:=by
   have:aU (n+1)*((a:Z)+1)<=aU (n+1)*2^aN a:=jO (by rw[<-xP];omega) (fu (fQ _));have p:aU (n+1)*((a:Z)+1)=aU (n+1)*(a:Z)+aU (n+1):=(by rw[amS,amT]);show ag c<_;rw[h];show ag (c.take (n+1))+aU (n+1)*(a:Z)<_;omega
  have e:ag c*2^(32-aN a)<aU (n+1)*2^aN a*2^(32-aN a):=rW aq (jM _);rw[j5,<-lU,(aa:aN a+(32-aN a)=32)] at e;rw[hV,kQ];rw[kQ];have:aU (n+1)*2^32=4294967296*aU (n+1):=(by rw[kQ];rfl);omega
 have aq:aU (n+1)*2^b<=ag c:=(by have:aU (n+1)*2^b<=aU (n+1)*(a:Z):=jO (by rw[<-xP];rw[k] at g;simp only[amU] at g;omega) (fu (fQ _));rw[h];show _<=ag (c.take (n+1))+aU (n+1)*(a:Z);omega);have e:aU (n+1)*2^b*2^(32-aN a)<=ag c*2^(32-aN a):=m8 aq (fu (jM _));rw[j5,<-lU,(aa:b+(32-aN a)=31)] at e;have:aU (n+1)*2^31=2147483648*aU (n+1):=(by rw[kQ];rfl);omega
def T1 (g:ag c=a) (e:aQ c) (l:e5 c) (q:a<aU (b+2)) (r:2147483648*aU (b+1)<=a):∃d:c.length=b+2,2147483648<=c[b+1]:=by
 have t:=fQ (b+1);have k:c.length=b+2:=by
  have o:=g5 e;have h:c≠[]:=λi=>(by rw[i] at g;simp only[ag] at g;omega);have p:=e5.low e l h;rcases r4 c.length (b+2) with d|d|d
  ·have:=pc (m:=c.length) (n:=b+1) aa;omega
  ·exact d
  have:=pc (m:=b+2) (n:=c.length-1) aa;omega
 refine⟨k,?_⟩;have s:ag c=ag (c.take (b+1))+aU (b+1)*c[b+1]:=(by rw[<-it aa,fG aa]);have j:=g5 (e.take (b+1));rw[fU,hG aa] at j;rcases iV c[b+1] 2147483648 with f|f
 ·exfalso;have:aU (b+1)*(c[b+1]+1)<=aU (b+1)*2147483648:=jO aa aa;rw[amS,amT] at this;omega
 exact f
theorem L9 {g c h f e b:Z} (k:(f+a*(h+b))+d*c=g) (i:h=d*p+e):(f+a*(e+b))+d*(c+a*(p-0))=g:=by subst i;have aq:a*(d*p+e+b)=a*(e+b)+a*(d*p):=(by grind);have j:d*(c+a*(p-0))=d*c+a*(d*p):=(by grind);omega
def T0 {n:X} (z:aQ c) (J:ag c=a) (d6:a<aU (n+2)) (L:c.length=n+2) (a3:2147483648<=c[n+1]) (co:n<=10000000) (a4:aQ f) (am:ag f=d) (V:f.length=e) (em:e=b+(n+2)) (d5:e<=10000000) (ap:ag (f.drop b)<a) {H:jT->Prop} (ad:∀i h,i.length=b->aQ i->h.length=e->aQ h->ag h+a*ag i=d->ag h<a->H (i,h,())):ae (loop (σ:=(Z×bf×bf×bt)) (ρ:=jT) (λ(r,P,u,_)=>
 bif br (r>=0) then
 ((gv r).bind λM=>(gv (aP (ay (r+al c)))).bind λN=>(g9 M N u.length).bind λ_=>(nK u.length).map λ_=>(M,N)).bind λt=>
  bif cb t.1 t.2 then
 (y6 ((u,t.1,t.2),c,())).bind λ(ci,cs,_)=>
 wr P r cs λds=>
 Y (.inl (ay (r-1),ds,ci,())) else bo else
 Y (.inr (P,u,()))) (ay (al (bJ b (0:Z))-1),bJ b (0:Z),f,())) H:=by
 have K:0<a:=(by have o:=FC L;have q:=e8 (z.take n);have d1:=z.get (n:=n) aa;have d2:0<(c[n+1]*4294967296+c[n])*aU n:=qs aa (fQ n);omega);refine ae.steps b (λl cv=>∃i h,cv=(((b:X):Z)-1-l,i,h,())/\i.length=b/\aQ i/\(∀g,g<b-l->(an:g<i.length)->i[g]=0)/\h.length=e/\aQ h/\ag h+a*ag i=d/\ag (h.drop (b-l))<a) ⟨bJ b 0,f,?_,ac,aQ.lQ _,ac,V,a4,by rw[pj,am];omega,ap⟩ ?_ ?_
 ·rw[show ay (al (bJ b (0:Z))-1)=(b:Z)-1-((0:X):Z) from ?_];simp only[bh,qC];rw[cL aa aa];omega
 ·rintro l _ ek ⟨i,h,rfl,aw,E,F,G,p,o,q⟩;obtain⟨g,an⟩:∃g,b=g+1+l:=⟨b-1-l,aa⟩;have aq:((b:X):Z)-1-(l:Z)=(g:Z):=aa;rw[(aa:b-l=g+1)] at q;have R:aP (ay ((g:Z)+al c))=((g+(n+3):X):Z):=by
   simp only[bh];rw[cL aa aa,(aa:(g:Z)+(c.length:Z)=((g+(n+2):X):Z)),bk aa];rfl
  simp only[aq,aK (aa:(g:Z)>=0),bG,R,vc,aC,p4 (aa:g<=g+(n+3)/\g+(n+3)<=h.length),Jj (aa:0<h.length),i9,show cb g (g+(n+3))=bp from by simp];obtain⟨m,v⟩:∃m,m=h.take g:=⟨_,bn⟩;obtain⟨j,B⟩:∃j,j=(h.drop g).take (n+3):=⟨_,bn⟩;obtain⟨k,x⟩:∃k,k=h.drop (g+(n+3)):=⟨_,bn⟩;have w:m.length=g:=(by rw[v,fU];omega);have s:j.length=n+3:=(by rw[B,fU,na];omega);have y:h=m++(j++k):=(by rw[v,B,x,<-qt,kp,kp]);have d3:k.length=e-(g+(n+3)):=(by rw[x,na,G]);have ce:aQ m:=(by rw[v];exact p.take g);have D:aQ j:=(by rw[B];exact(p.drop g).take _);have O:aQ k:=(by rw[x];exact p.drop _);have d7:ag (h.drop g)=ag j+aU (n+3)*ag k:=(by rw[y,rY aa,qu aa,iu,md,s]);have d8:ag (h.drop g)=h[g]+4294967296*ag (h.drop (g+1)):=mI aa;have ex:=p.get (n:=g) aa;have T:=e8 O;have d4:0<=aU (n+3)*ag k:=m9 (fu (fQ _)) T;have el:ag (h.drop g)<4294967296*a:=aa;have U:ag k=0:=by
   rcases iV 0 (ag k) with S|S
   ·exfalso;have:=jO (aa:1<=ag k) (fu (fQ (n+3)));have d0:aU (n+3)=4294967296*aU (n+2):=hV (n+2);have:=e8 D;omega
   omega
  have Q:yc c j n:=⟨z,D,L,s,co,a3,by rw[J];omega⟩;have av:0<=ag j/a:=aiT (e8 D) aa;have a0:ag j/a<4294967296:=amV K aa;have d9:=ajj (ag j) a;have eq:=aj6 (ag j) K;have I:=TZ (A:=m) (C:=k) Q;rw[<-y,w,s,J] at I;refine ae.aM I ?_;rintro _ ⟨c1,rfl,c2,dl,dc⟩;dsimp only;rw[lO aa];refine bu.2 ⟨i.set g (ag j/a),m++(c1++k),?_,by simp[aw],E.set av a0,?_,by simp;omega,aQ.append.2 ⟨ce,aQ.append.2 ⟨dl,O⟩⟩,?_,?_⟩
  ·rw[cL aa aa];congr 1;omega
  ·intro bs fl bx;rw[yn aa];exact F bs aa (by simpa using bx)
  ·rw[mJ aa,F g aa aa,md,md,w,dc];rw[y,md,md,w] at o;rw[c2];rw[s] at o;have bl:ag j=a*(ag j/a)+ag j %a:=aa;exact L9 o bl
  rw[(aa:b-(l+1)=g),rY aa,qu aa,iu,md,U,dc];omega
 rintro _ ⟨i,h,rfl,aw,E,F,G,p,o,q⟩;have aq:¬(((b:X):Z)-1-(b:Z)>=0):=aa;simp only[aI aq,bP];rw[oM,lV] at q;exact bu.2 (ad i h aw E G p o q)
def EX {A B q r:Z} (f:0<B) (b:A=B*q+r) (c:0<=r) (d:r<B):A/B=q/\A %B=r:=by have e:=lT A B;have a:A/B=q:=(by rw[b,Int.mul_add_ediv_left _ _ aa,po c d];omega);refine⟨a,?_⟩;rw[a] at e;omega
theorem T2 (l:aQ c) (p:aQ f) (V:e5 c) (F:e5 f) (fn:c.length<=1000000) (fp:f.length<=1000000) (N:f≠[]):Cc (c,f,())=Y (eQ (ag c/ag f).toNat,eQ (ag c %ag f).toNat,()):=by
 unfold Cc;refine bQ.1 ?_;have K:=e8 l;have I:0<ag f:=(by have:=e8 p;have:ag f≠0:=λam=>N (e5.zero p F am);omega);refine ae.bs (GF l p V F aa aa) ?_;dsimp only;rw[cQ];refine ae.ite (λt=>?_) λt=>?_
 ·have C:ag c<ag f:=by
   unfold fF at t;split at t
   ·assumption
   split at t<;>omega
  refine ae.bs (yN aa) (bu.2 ?_);rw[po K C,rV K C];show(([]:ahZ),c,())=(eQ 0,eQ (ag c).toNat,());rw[Hm,<-e5.eq l V]
 have em:ag f<=ag c:=by
  unfold fF at t;split at t
  ·omega
  omega
 rw[gD,cQ];refine ae.ite (λh=>?_) λh=>?_
 ·have h:f.length=1:=(by simp only[bh] at h;omega);obtain⟨o,rfl⟩:=List.length_eq_one_iff.1 h;have co:=(aQ.cons.1 p).1;have u:ag [o]=o:=(by simp[ag]);rw[u] at I|-;have d3:0<=ag c %o:=aj7 _ aa;have fl:ag c %o<o:=aj6 _ I;refine ae.bs (y:=o) rfl (ae.bs (acT l aa aa co.2) ?_);dsimp only;refine ae.bs (oB (aQ.cons.2 ⟨⟨d3,aa⟩,aQ.nil⟩) ac) (bu.2 ?_);show(_,ir [ag c %o],())=_;rw[ir];simp[ag]
 obtain⟨b,cv⟩:∃b,f.length=b+2:=(by have:=yo.2 N;simp only[bh] at h;exact⟨f.length-2,aa⟩);have aq:ay (al f-1)=((b+1:X):Z):=(by simp only[bh];rw[cL aa aa];omega);obtain⟨a,T,d5,U,d6⟩:=XH p F cv;have ex:b+2<=c.length:=by
  rcases cO c.length (b+2) with j|j
  ·have:=ql l p F aa;omega
  exact j
 have D:=jM a;refine ae.bs (y:=f[b+1]) (by rw[aq];exact e3 aa) (ae.bs d5 ?_);refine ae.bs (Kd p aa aa) ?_;obtain⟨s,u⟩:∃s,s=eQ (ag f*2^a).toNat:=⟨_,bn⟩;have bl:0<=ag f*2^a:=akJ aa aa;have M:ag s=ag f*2^a:=(by rw[u,uQ bl]);have u6:aQ s:=(by rw[u];exact ob _);have d7:e5 s:=(by rw[u];exact xa _);obtain⟨d0,c1⟩:=T1 M u6 d7 U d6;rw[<-u];have an:aP (al c)=((c.length+1:X):Z):=bk aa;refine ae.bs (y:=c.length+1) (by rw[an];exact h9 aa) ?_;refine ae.bs (Kd l aa aa) ?_;have a4:0<=ag c*2^a:=akJ aa aa;have el:ag c*2^a<aU (c.length+1):=(by have w:ag c*2^a<aU c.length*2^a:=akM (g5 l) D;have x:aU c.length*2^a<=aU c.length*4294967296:=akQ (by have:=vl T;omega) (ail (fQ _));rw[hV,ai1 4294967296];omega);obtain⟨m,E⟩:∃m,m=eQ (ag c*2^a).toNat:=⟨_,bn⟩;have R:m.length<=c.length+1:=(by rw[E];exact q7 aa);have d2:aQ m:=(by rw[E];exact ob _);have d1:ag m=ag c*2^a:=(by rw[E,uQ a4]);rw[<-E];obtain⟨i,O⟩:∃i,i=jk (bJ (c.length+1) (0:Z)) m 0 (bJ (c.length+1) (0:Z)).length:=⟨_,bn⟩;have J:i=m++bJ (c.length+1-m.length) 0:=(by rw[O];unfold jk;rw[List.take_zero,alQ,List.length_replicate,Nat.sub_zero,ch R,amW,aji R,List.drop_replicate]);have dl:i.length=c.length+1:=(by rw[J];simp;omega);have S:aQ i:=(by rw[J];exact aQ.append.2 ⟨d2,aQ.lQ _⟩);have Q:ag i=ag c*2^a:=(by rw[J,md,pj,d1];omega);dsimp only;rw[<-O];obtain⟨g,cs⟩:∃g,c.length+1=g+(b+2):=⟨c.length+1-(b+2),aa⟩;have ap:ay (al i-al s)=((g:X):Z):=(by simp only[bh];rw[cL aa aa];omega);refine ae.bs (y:=g) (by rw[ap];exact h9 aa) ?_;have C:ag (i.drop g)<ag f*2^a:=(by have h:=oD i g aa;have w:=e8 (S.take g);rw[Q] at h;have x:ag c*2^a<aU c.length*2^a:=akM (g5 l) D;have H:aU c.length=aU g*aU (b+1):=(by rw[<-tD];congr 1;omega);have v:aU g*ag (i.drop g)<aU g*(aU (b+1)*2^a):=(by rw[<-Int.mul_assoc,<-H];omega);have z:=aj8 v (ail (fQ g));have ek:aU (b+1)*2^a<=aU (b+1)*2147483648:=akQ (vl T) (ail (fQ _));omega);refine ae.aM (P:=λad=>∃d e,ad=(d,e,())/\d.length=g/\aQ d/\e.length=c.length+1/\aQ e/\ag e+ag f*2^a*ag d=ag c*2^a/\ag e<ag f*2^a) (T0 u6 M U d0 c1 aa S Q dl cs aa C λd e h w x H v z=>⟨d,e,bn,h,w,x,H,v,z⟩) ?_;rintro _ ⟨d,e,rfl,aw,d4,fs,G,v,z⟩;have av:al s=((b+2:X):Z):=(by simp only[bh];omega);dsimp only;rw[av];refine ae.bs (Fh aa) ?_;have c2:=e8 G;have ds:ag (e.take (b+2))=ag e:=by
  have h:=oD e (b+2) aa;have w:=e8 (G.drop (b+2));have x:=e8 (G.take (b+2));rcases iV 0 (ag (e.drop (b+2))) with j|j
  ·exfalso;have:=jO (aa:1<=ag (e.drop (b+2))) (fu (fQ (b+2)));omega
  rw[(aa:ag (e.drop (b+2))=0)] at h;omega
 have L:ag e=2^a*(ag c-ag f*ag d):=(by have d8:ag f*2^a*ag d=2^a*(ag f*ag d):=(by grind);have d9:2^a*(ag c-ag f*ag d)=2^a*ag c-2^a*(ag f*ag d):=Int.mul_sub ..;rw[kQ (ag c)] at v;omega);have bx:0<=ag c-ag f*ag d:=by
  rcases iV (ag c-ag f*ag d) 0 with j|j
  ·have:=amX D j;omega
  exact j
 have ce:ag c-ag f*ag d<ag f:=(by have:2^a*(ag c-ag f*ag d)<2^a*ag f:=(by rw[<-L,ai1 (2^a)];exact z);exact aj8 this (ail D));have ci:ag e/2^a=ag c-ag f*ag d:=(by rw[L];exact amY _ aa);obtain⟨a3,f2⟩:=EX (A:=ag c) (B:=ag f) (q:=ag d) (r:=ag c-ag f*ag d) I aa bx ce;refine ae.bs (oB ((G.take _).drop _) (by simp;omega)) ?_;have a0:ir (alP 0 (e.take (b+2)))=eQ (ag e).toNat:=(by rw[List.drop_zero,ir,ds]);dsimp only;rw[a0];refine ae.bs (Mb (ob _) (xa _) ?_ aa) ?_
 ·have:=q7 (n:=(ag e).toNat) (k:=b+2) aa;omega
 dsimp only;refine ae.bs (oB d4 aa) (bu.2 ?_);show(ir d,_,())=_;rw[uQ c2,ci,a3,f2,ir]
def Ms (a:X):eQ (a:Z).toNat=eQ a:=by rw[fC]
theorem zL (a:aN e<=32*b):(eQ e).length<=b:=by refine q7 ?_;grind [qq,xP,gj]
theorem BM:fF a d>=0↔d<=a:=by grind [fF]
theorem LM:fF a d<0↔a<d:=by grind [fF]
def Bd (a:pn):Prop:=aQ a.2.1/\e5 a.2.1/\a.2.1.length<=100000
def hR {z:Z} (a:aN z.natAbs<=3000000):Bd (aS z):=⟨mr z,DE z,zL aa⟩
theorem pi (a:aQ c) (b:e5 c) (e:c.length<=1000000):iz (c,())=Y (c,()):=by have d:=e5.eq a b;rw[oB a aa];show Y (eQ (ag c).toNat,())=_;grind
theorem sg {neg:bA} {x:Z} (a:0<=x) (b:(eQ x.toNat).length<=100000000):l4 (neg,eQ x.toNat,())=Y (aS (if neg then-x else x),()):=by grind [uQ,wm,ob,hg]
theorem Uk {x y:X} {k:X} (a:(eQ x).length<=k) (b:(eQ y).length<=k):(eQ (x+y)).length<=k+1:=by refine q7 ?_;have c:=Mr x;have d:=Mr y;have e:=pc a;have f:=pc b;grind [hV,fQ]
def A5 {l:ahZ} (d:aQ l) (c:l.length<=b) (g:a<=ag l):(eQ a.toNat).length<=b:=by refine q7 ?_;have e:=g5 d;have f:=pc c;have:=fQ b;omega
theorem KW {a b:pn} (t:Bd a) (u:Bd b):us (a,b,())=Y (aS (hg a+hg b),()):=by
 obtain⟨j,a,_⟩:=a;obtain⟨k,b,_⟩:=b;obtain⟨c,g,r⟩:=t;obtain⟨d,h,s⟩:=u;dsimp only at c g r d h s;have x:=e8 c;have y:=e8 d;have aw:=g5 c;have z:=g5 d;have A:=pc (m:=a.length) (n:=100000) r;have B:=pc (m:=b.length) (n:=100000) s;have C:=fQ 100000;have w:∀e:Z,e<=ag a+ag b->(eQ e.toNat).length<=100000001:=λe v=>(by have:(eQ e.toNat).length<=100001:=(by refine q7 ?_;grind [hV]);omega);have q:∀e:Z,e<=ag a+ag b->(eQ e.toNat).length<=100000000:=λe v=>(by have:(eQ e.toNat).length<=100001:=(by refine q7 ?_;grind [hV]);omega);unfold us;dsimp only;refine ai (pi c g aa) (ai (pi d h aa) ?_);dsimp only;cases i:(j==k) with
 |true=>
  have i:j=k:=(by grind);subst i;refine ai (PG c d aa aa) (ai (sg aa (q _ aa)) ?_);grind [hg]
 |false=>
  have i:j=!k:=(by cases j<;>cases k<;>simp at i|-);refine ai (GF c d g h aa aa) ?_;dsimp only;rw[cQ];split
  ·rename_i l;have p:ag b<=ag a:=BM.1 l;have o:b.length<=a.length:=by
    rcases cO a.length b.length with f|f
    ·have:=ql c d h f;omega
    omega
   refine ai (N1 c d aa o p) (ai (sg aa (q _ aa)) ?_);grind [hg]
  rename_i l;have p:ag a<ag b:=Int.not_le.1 (mt BM.2 l);have o:a.length<=b.length:=by
   rcases cO b.length a.length with f|f
   ·have:=ql d c g f;omega
   omega
  refine ai (N1 d c aa o (fu p)) (ai (sg aa (q _ aa)) ?_);grind [hg]
def KV {x y:Z} (a:aN x.natAbs<=3000000) (b:aN y.natAbs<=3000000):us (aS x,aS y,())=Y (aS (x+y),()):=by rw[KW (hR a) (hR b),oC,oC]
theorem adl {x y:Z} (b:aN x.natAbs<=3000000) (c:aN y.natAbs<=3000000):Cb (aS x,aS y,())=Y (aS (x-y),()):=by unfold Cb;have a:Bd ((!(aS y).1,(aS y).2):pn):=⟨mr y,DE y,(hR c).2.2⟩;refine ai (KW (hR b) a) ?_;rw[oC];have d:hg ((!(aS y).1,(aS y).2):pn)=-y:=(by have:=FA (aS y).1 (aS y).2.1;have e:=oC y;grind);grind
theorem Xm (f:aN a.natAbs<=3000000) (g:aN d.natAbs<=3000000):B9 (aS a,aS d,())=Y (aS (a*d),()):=by
 unfold B9;dsimp only;obtain⟨b,h,l⟩:=hR f;obtain⟨c,i,m⟩:=hR g;refine ai (pi b h aa) (ai (pi c i aa) ?_);dsimp only;refine ai (adG b c aa aa) ?_;rw[il,il,<-Int.natCast_mul,Ms];dsimp only;have n:(eQ (a.natAbs*d.natAbs)).length<=100000000:=(by have:(eQ (a.natAbs*d.natAbs)).length<=200000:=(by refine zL ?_;have:=BH f g;omega);omega);have e:=sg (neg:=!((aS a).1==(aS d).1)) (x:=((a.natAbs*d.natAbs:X):Z)) aa (by grind);rw[Ms] at e;refine ai e ?_;dsimp only;congr 3;show(if(!(br (a<0)==br (d<0)))=bp then _ else _)=_;rw[Int.natCast_mul];rcases ai0 a 0 with j|j<;>rcases ai0 d 0 with k|k
 ·grind
 ·grind
 ·grind
 grind
theorem LN {x y:Z} (i:aN x.natAbs<=900000) (l:aN y.natAbs<=900000):y4 (aS x,aS y,())=Y (fF x y,()):=by
 obtain⟨c,d,m⟩:=hR (z:=x) aa;obtain⟨e,f,n⟩:=hR (z:=y) aa;unfold y4;refine ai (tp (jH aa)) (ai (tp (jH aa)) ?_);dsimp only;rw[cQ,cQ];have h:∀a:Z,a<0/\gB a=-1\/a=0/\gB a=0\/0<a/\gB a=1:=λa=>(by grind [gB]);split
 ·rename_i o;unfold fF;grind
 split
 ·rename_i j k;unfold fF;grind
 rename_i j k;have p:gB x=gB y:=aa;refine ai (pi c d aa) (ai (pi e f aa) ?_);dsimp only;refine ai (GF c e d f aa aa) ?_;rw[il,il];dsimp only;have i:=h x;have l:=h y;have:gB x*fF (x.natAbs:Z) (y.natAbs:Z)=fF x y:=by
  rcases i with⟨g,b⟩|⟨g,b⟩|⟨g,b⟩<;>rw[b]
  ·unfold fF;omega
  ·rw[pq];unfold fF;omega
  grind
 grind [cL,fF]
def Xo (b:Z) (a:X):(b.natAbs:Z)*2^a=((b.natAbs*2^a:X):Z):=by simp
theorem yI:aN (b*2^e)<=aN b+e:=by
 rcases n0 b with a|a
 ·grind
 simp_all [oU,bc]
theorem acS (i:aN a.natAbs<=1900000) (h:b<=1048576):qW (aS a,(b:Z),())=Y (aS (a*2^b),0,()):=by obtain⟨c,d,f⟩:=hR (z:=a) aa;unfold qW;dsimp only;rw[aI (aa:¬((b:Z)< -1048576)),aI (aa:¬((b:Z)>1048576))];refine ai bn (ai (pi c d aa) ?_);dsimp only;rw[aK (aa:(b:Z)>=0)];refine ai (Kd c aa aa) ?_;rw[il,Xo];have g:(eQ (a.natAbs*2^b)).length<=100000:=zL (by grind [yI]);have e:=sg (neg:=(aS a).1) (x:=((a.natAbs*2^b:X):Z)) aa (by grind);refine ai e ?_;dsimp only;congr 3;show(if br (a<0)=bp then _ else _)=_;grind
theorem Oj {m:Z} (b:0<a) (d:0<=m):-m/a=if m %a=0 then-(m/a) else-(m/a+1):=by
 have e:=lT m a;have f:=nV m (aa:a≠0);have g:=pp m b;split
 ·rename_i c;refine(EX (A:=-m) (B:=a) (q:=-(m/a)) (r:=0) b ?_ (ajH _) b).1;grind
 rename_i c;refine(EX (A:=-m) (B:=a) (q:=-(m/a+1)) (r:=a-m %a) b ?_ aa aa).1;grind
theorem acR (u:aN a.natAbs<=1900000) (q:b<=1048576) (r:0<b):qW (aS a,-(b:Z),())=Y (aS (a/2^b),0,()):=by
 obtain⟨e,f,g⟩:=hR (z:=a) aa;have i:=jM b;unfold qW;dsimp only;rw[aI (aa:¬(-(b:Z)< -1048576)),aI (aa:¬(-(b:Z)>1048576))];refine ai bn (ai (pi e f aa) ?_);dsimp only;rw[aI (aa:¬(-(b:Z)>=0))];have aq:ay (0- -(b:Z))=(b:Z):=(by grind [cL]);rw[aq];refine ai (Mb e f aa aa) ?_;rw[il];have s:0<=(a.natAbs:Z)/2^b:=aiT aa aa;have j:(a.natAbs:Z)/2^b<=a.natAbs:=aj9 _ aa;have h:∀d:Z,d<=a.natAbs->(eQ d.toNat).length<=100000:=λd t=>A5 (l:=(aS a).2.1) e g (by grind [il]);have p:(eQ ((a.natAbs:Z)/2^b+1).toNat).length<=100001:=(by have n:=Uk (x:=((a.natAbs:Z)/2^b).toNat) (y:=1) (k:=100000) (h _ j) ab;grind);dsimp only;refine ai (y:=(eQ (if a<0/\(a.natAbs:Z) %2^b≠0 then(a.natAbs:Z)/2^b+1 else(a.natAbs:Z)/2^b).toNat,(bq,([],())),())) ?_ ?_
 ·refine ai (y:=(br (a<0/\(a.natAbs:Z) %2^b≠0),(bq,([],())),())) ?_ ?_
  ·show(bif br (a<0)==bp then _ else _)=_;by_cases c:a<0
   ·simp[c]
   grind
  dsimp only;by_cases c:a<0/\(a.natAbs:Z) %2^b≠0
  ·rw[aK c,au c];refine ai (PG (ob _) (aQ.cons.2 ⟨ab,aQ.nil⟩) (by grind) ac) ?_;grind [uQ,ag]
  grind
 dsimp only;refine ai (sg ?_ ?_) ?_
 ·omega
 ·grind
 dsimp only;congr 3;show(if br (a<0)=bp then _ else _)=_;by_cases c:a<0
 ·rw[au (aK c)];have o:=Oj (m:=a.natAbs) i aa;grind
 grind
theorem T3 {x y:Z} (u:aN x.natAbs<=1900000) (w:aN y.natAbs<=1900000) (v:0<=x) (k:y≠0):B7 (aS x,aS y,())=Y (aS (x/y),aS (x %y),0,()):=by obtain⟨b,d,g⟩:=hR (z:=x) aa;obtain⟨c,e,h⟩:=hR (z:=y) aa;unfold B7;dsimp only;refine ai (pi c e aa) ?_;dsimp only;have f:(aS y).2.1≠[]:=λi=>k (w8.1 i);rw[sX,aI f];refine ai (pi b d aa) ?_;dsimp only;refine ai (T2 b c d e aa aa f) ?_;rw[il,il];dsimp only;have m:(aS x).1=bq:=aI aa;have n:0<=(x.natAbs:Z)/(y.natAbs:Z):=aiT aa aa;have s:(x.natAbs:Z)/(y.natAbs:Z)<=x.natAbs:=aj9 _ aa;have o:0<=(x.natAbs:Z) %(y.natAbs:Z):=aj7 _ aa;have t:(x.natAbs:Z) %(y.natAbs:Z)<(y.natAbs:Z):=aj6 _ aa;have q:∀a:Z,a<=x.natAbs->(eQ a.toNat).length<=100000:=λa p=>A5 (l:=(aS x).2.1) b g (by grind [il]);have r:∀a:Z,a<=y.natAbs->(eQ a.toNat).length<=100000:=λa p=>A5 (l:=(aS y).2.1) c h (by grind [il]);rw[m];refine ai bn ?_;dsimp only;refine ai (sg n (by grind)) (ai (sg o (by grind)) ?_);dsimp only;have aq:(x.natAbs:Z)=x:=aa;rw[aq];have j:x %(y.natAbs:Z)=x %y:=(by grind [amZ,ai0]);rw[j];congr 3;show(if(!(bq==br (y<0)))=bp then _ else _)=_;grind [aI,aK,am0,ai0]
theorem DS {n:Z} (c:-9223372036854775808<=n) (d:n<=9223372036854775807):uu (n,())=Y (aS n,()):=by
 unfold uu;dsimp only;obtain⟨a,e,b,f⟩:∃a:Z,a=n.natAbs/\0<=a/\a<=9223372036854775808:=⟨_,bn,aa,aa⟩;refine ai (y:=(a,(bq,([],())),())) ?_ ?_
 ·rw[cQ];grind [rP]
 dsimp only;rw[m4,bN,rr b aa,lh (x:=a/4294967296) aa aa];refine ai (wm (aQ.cons.2 ⟨⟨aa,aa⟩,aQ.cons.2 ⟨⟨aa,aa⟩,aQ.nil⟩⟩) ac) ?_;grind [ag,hg]
theorem V2 (d:aQ c) (s:c.length<=2) {e:cJ->Prop} (q:e (ag c,())):ae (loop (σ:=np) (ρ:=cJ) (λ(j,b,_)=>
 bif br (b<al c) then
 (ao c b).bind λo=>
 (h2 bC (aL o) (ay (32*b))).bind λp=>
 Y (.inl (fN bC j p,aP b,())) else
 Y (.inr (j,()))) (0,0,())) e:=by
 refine ae.steps c.length (λa n=>n=(ag (c.take a),(a:Z),())) rfl ?_ ?_
 ·rintro a _ g rfl;have i:=d.get g;simp only[aK (show(a:Z)<al c by grind),bG,e3 g,aC];have k:=e8 (d.take a);have f:=g5 (d.take a);rw[fU,hG aa,qq] at f;have aq:ay (32*(a:Z))=((32*a:X):Z):=(by grind [cL]);have l:(2:Z)^(32*a)<=4294967296:=by
   rcases(aa:a=0\/a=1) with rfl|rfl<;>decide
  have m:=jM (32*a);have r:c[a]*2^(32*a)<4294967296*4294967296:=(by have:=jO l i.1;omega);have h:0<=c[a]*2^(32*a):=m9 i.1 (fu m);rw[aq,fq (x:=c[a]) aa aa,nQ aa aa,aC,fC,rV h aa,m1 (32*a) k f h aa aa (akN _ _),bk aa];grind [it,qq,ai1,bu]
 rintro _ rfl;simp_all [bu,fG,bc,aI,bh,bP,al]
theorem V3 {z:Z} (h:0<=z) (c:z<9223372036854775808):B8 (aS z,())=Y (z,bp,()):=by have i:aN z.natAbs<=64:=gj.2 aa;obtain⟨a,b,g⟩:=hR (z:=z) aa;have d:(aS z).2.1.length<=2:=zL aa;unfold B8;dsimp only;refine bQ.1 ?_;refine ae.bs (pi a b aa) ?_;dsimp only;rw[aI (show¬(al (aS z).2.1>2) by grind),bP];refine ae.aM (P:=λf=>f=(z,())) (V2 a d (by grind [il])) ?_;rintro _ rfl;have e:(aS z).1=bq:=aI aa;dsimp only;rw[e];refine ae.bs (y:=.inr (z,bp,())) ?_ (bu.2 bn);refine ai bn ?_;dsimp only[bP];rw[aK (show z<9223372036854775808 from c)];refine ai bn ?_;dsimp only[bG];grind [cL]
theorem Fb (p:aQ c) (q:c.length<=100000000):mn (c,())=Y (ir c,()):=by
 unfold mn;refine bQ.1 ?_;refine ae.aM (P:=λh=>∃a:X,h.1=(a:Z)/\a<=c.length/\(∀b,a<=b->(k:b<c.length)->c[b]=0)/\e5 (c.take a)) ?_ ?_
 ·refine aik (λe=>∃a:X,e.1=(a:Z)/\a<=c.length/\(∀b,a<=b->(k:b<c.length)->c[b]=0)) (λe=>e.1.toNat) ⟨c.length,bn,bc _,λb f g=>by omega⟩ ?_;rintro⟨_,_⟩ ⟨a,rfl,f,g⟩;rcases a with _|a
  ·refine bu.2 ⟨0,bn,c8 _,g,λm l=>by grind⟩
  have aq:ay (((a+1:X):Z)-1)=(a:Z):=(by grind [cL]);have j:br (((a+1:X):Z)>0)=bp:=aK aa;simp only[aq,j,aix,bG,e3 (show a<c.length from f),aC];by_cases i:c[a]=0
  ·rw[gD,aK i];grind [cl,bu]
  rw[gD,aI i];refine bu.2 ⟨a+1,bn,f,g,λm l=>?_⟩;grind
 rintro⟨_,_⟩ ⟨a,rfl,f,g,n⟩;dsimp only;refine ae.aM (P:=λh=>h=(c.take a,())) ?_ ?_
 ·refine ae.steps a (λd e=>e=((d:Z),c.take d,())) rfl ?_ ?_
  ·rintro d _ o rfl;simp only[aK (aa:(d:Z)<(a:Z)),bG,e3 (aa:d<c.length),aC];grind [ct,bS,bu,da,bk]
  rintro _ rfl;simp_all [bu,aI,bP]
 grind [bu,Q9]
theorem AT (d:aQ c) (e:c.length<=100000000):l5 (g,c,())=Y (aS (hg (g,c,())),()):=by
 unfold l5;refine ai (Fb d e) ?_;have a:=Mo (neg:=g) (J6 c) (Q8 c);have b:hg (g,ir c,())=hg (g,c,()):=(by grind [J7,hg]);rw[<-b,<-a];dsimp only;cases g
 ·simp
 simp_all [aix,bG,ajX,cx,bh,yo]
theorem th (b:aQ c) (d:c.length<=100000000) (e:ag c=a):l5 (g,c,())=Y (aS (if g then-a else a),()):=by grind [AT,hg]
theorem tk {l:ahZ} (a:aQ l) (b:e5 l) (d:l.length<=1000000):mn (l,())=Y (l,()):=by have c:=e5.eq a b;rw[Fb a aa];show Y (eQ (ag l).toNat,())=_;grind
def Qa {a:pn} (b:aQ a.2.1) (c:a.2.1.length<=100000000):pW (a,())=Y (aS (hg a),()):=by unfold pW;exact ai (AT b c) rfl
def xU (b:aN a.natAbs<=3000000):pW (aS a,())=Y (aS a,()):=by rw[Qa (mr a) (by have:=(hR b).2.2;omega),oC]
theorem P9 (b:aN a.natAbs<=3000000):zn (aS a,())=Y (aS (-a),()):=by unfold zn;refine ai (AT (mr a) (by have:=(hR b).2.2;omega)) ?_;grind [oC,FA]
theorem AJ (b:aN a.natAbs<=3000000):qY (aS a,())=Y (aS a.natAbs,()):=by unfold qY;refine ai (AT (mr a) (by have:=(hR b).2.2;omega)) ?_;grind [oC,Rm,mr]
theorem lL {z:Z} (a:aN z.natAbs<=3000000):mU (aS z,())=Y (gB z,()):=by
 unfold mU;refine ai (xU a) ?_;simp only[sX,cQ,w8];unfold gB;split
 ·rfl
 show(bif br (z<0) then _ else _)=_;grind
theorem AK {z:Z} (d:aN z.natAbs<=3000000):uC (aS z,())=Y ((aN z.natAbs:Z),()):=by obtain⟨a,b,e⟩:=hR d;have c:=ND a b aa;rw[il] at c;unfold y8 at c;unfold uC;refine ai (tk a b aa) ?_;grind
theorem Qo (v:aN a.natAbs<=900000) (s:a≠0):qZ (aS a,())=Y ((cT a.natAbs:Z),()):=by
 obtain⟨e,i,r⟩:=hR (z:=a) aa;unfold qZ;refine ai (tk e i aa) ?_;have u:=il a;dsimp only;generalize(aS a).2.1=b at*;have m:a.natAbs=(ag b).toNat:=aa;rw[m];refine bQ.1 (ae.aM (P:=λo=>match o with|.inl _=>b6|.inr p=>p=((cT (ag b).toNat:Z),())) ?_ ?_)
 ·refine ae.steps b.length (λc q=>q=((c:Z),())/\ag (b.take c)=0) ⟨bn,bn⟩ ?_ ?_
  ·rintro c _ f ⟨rfl,j⟩;have h:=e.get f;simp only[aK (show(c:Z)<al b by grind),bG,e3 f,aC,fX];by_cases d:b[c]=0
   ·simp only[aK d,gR,bP];grind [it,bu,bk]
   simp only[aI d,mh,bG];have k:=Rh (x:=0) j f e d;rw[k];obtain⟨g,l⟩:=fR h.1;rw[l] at h d|-;have t:cT g<32:=i6 (ts aa) (gj.2 aa);refine ae.of_eq (ai (Rg (n:=g) aa aa) rfl) ?_;grind [cL]
  grind
 grind [bu]
theorem PP {n:X} (c:n<=1000000000):∃b a:X,n=32*b+a/\a<32/\ki bK (n:Z) 32=Y (b:Z)/\iC (n:Z) 32=Y (a:Z):=by
 refine⟨n/32,n %32,aa,aa,?_,?_⟩
 ·unfold ki;rw[au ab,FK aa,cr aa aa];simp
 simp_all [au,FL,iC]
theorem JB {n:X} (u:aQ c) (I:c.length<=10000000) (E:n<=100000000):ae (wT (c,(n:Z),())) (λl=>∃a,l=(a,())/\aQ a/\ag a=ag c*2^n/\a.length=n/32+c.length+1):=by
 unfold wT;obtain⟨g,b,H,F,v,w⟩:=PP (n:=n) aa;have j:=jM b;have A:=vk (p:=b) aa;have z:(2:Z)^b<=2147483648:=vl aa;dsimp only;refine ae.bs v (ae.bs (h9 aa) ?_);refine ae.aM (P:=λl=>∃d a,l=(d,a,())/\a.length=g+c.length/\aQ a/\0<=d/\d<2^b/\ag a+aU (g+c.length)*d=aU g*(2^b*ag c)) ?_ ?_
 ·refine ae.steps c.length (λe y=>∃d a,y=(d,(e:Z),a,())/\a.length=g+e/\aQ a/\0<=d/\d<2^b/\ag a+aU (g+e)*d=aU g*(2^b*ag (c.take e))) ⟨0,bJ g 0,bn,ac,aQ.lQ _,aa,j,by simp[ag,pj]⟩ ?_ ?_
  ·rintro e _ m ⟨d,a,rfl,aw,h,i,q,k⟩;have o:=u.get m;simp only[aK (show(e:Z)<al c by grind),bG,e3 m,aC,w];have C:c[e]*2^b<4294967296*2^b:=rW o.2 j;have B:c[e]*2^b<=4294967295*2^b:=m8 aa aa;have D:0<=c[e]*2^b:=m9 o.1 (fu j);obtain⟨f,G,J,K,L⟩:∃f,f=d+c[e]*2^b/\0<=f/\f<18446744073709551616/\f<4294967296*2^b:=⟨_,bn,aa,aa,aa⟩;have r:h2 bC (aL c[e]) (b:Z)=Y (c[e]*2^b):=by
    rw[fq (x:=c[e]) aa aa,nQ aa aa,fC];congr 1;omega
   have s:fN bC d (c[e]*2^b)=f:=(by grind [m1,akN]);have t:f/4294967296<2^b:=rU ab aa;rw[r,aC,s,da (by grind),m4,pk];refine bu.2 ⟨f/4294967296,a++[f %4294967296],by rw[bk aa],by grind,h.snoc aa aa,aa,t,?_⟩;grind [tD,ajj,qm,hV,it]
  rintro _ ⟨d,a,rfl,aw,h,i,q,k⟩;simp only[aI (show¬((c.length:Z)<al c) by grind),bP];rw[fG (bc _)] at k;grind [bu]
 rintro _ ⟨d,a,rfl,aw,h,i,q,k⟩;dsimp only;rw[lh i aa,da (by grind)];refine bu.2 ⟨a++[d],bn,h.snoc i aa,?_,by grind⟩;grind [qm,qq,am1]
theorem PT (g:aQ c) (h:aQ f) (o:e5 c) (p:e5 f) (t:c.length<=10000000) (u:f.length<=10000000):zo (c,f,())=Y (fF (ag c) (ag f),()):=by
 unfold zo;refine bQ.1 ?_;simp only[fX,bh];by_cases s:c.length=f.length
 ·rw[aK (aa:(c.length:Z)=f.length)];simp only[gR,bP];refine ae.aM (P:=λl=>match l with|.inl _=>ag c=ag f|.inr m=>m=(fF (ag c) (ag f),())) ?_ ?_
  ·refine ae.steps c.length (λb n=>n=(((c.length:X):Z)-1-b,())/\ag (c.drop (c.length-b))=ag (f.drop (c.length-b))) ⟨?_,?_⟩ ?_ ?_
   ·grind [cL]
   ·rw[nX aa,nX aa]
   ·rintro b _ q ⟨rfl,e⟩;obtain⟨a,r⟩:∃a,c.length=a+1+b:=⟨c.length-1-b,aa⟩;have aq:((c.length:X):Z)-1-(b:Z)=(a:Z):=aa;have i:a<c.length:=aa;have j:a<f.length:=aa;rw[(aa:c.length-b=a+1)] at e;simp only[aq,aK (aa:(a:Z)>=0),bG,e3 i,e3 j,aC];by_cases k:c[a]=f[a]
    ·simp only[aK k,gR,bP];grind [mI,cL,bu]
    simp only[aI k,mh,bG];rw[cQ];refine ae.ite (λd=>?_) λd=>?_
    ·refine bu.2 ?_;show((-1:Z),())=_;unfold fF;rw[au (FB g h i j e d)]
    refine bu.2 ?_;show((1:Z),())=_;have:=FB h g j i e.symm aa;grind [fF]
   rintro _ ⟨rfl,e⟩;have aq:¬(((c.length:X):Z)-1-(c.length:Z)>=0):=aa;simp_all [bu,aI,bP]
  grind [bu,fF,ag]
 rw[aI (aa:¬(c.length:Z)=f.length)];simp only[mh,bG];rw[cQ];unfold fF;refine ae.ite (λd=>bu.2 ?_) λd=>bu.2 ?_
 ·rw[au (ql g h p aa)]
 have:=ql h g o aa;grind
theorem WF (j:aQ c) (v:l<32) (u:e+b<c.length) (t:a=ag (c.drop e)):a/2^l/aU b %4294967296=(c[e+b]+4294967296*c.getD (e+b+1) 0)/2^l %4294967296:=by
 have q:=jM l;have s:=vk (p:=l) aa;have r:a/aU b=(c[e+b]+4294967296*c.getD (e+b+1) 0)+4294967296*(4294967296*ag (c.drop (e+b+2))):=by
  have h:c.drop e=(c.drop e).take b++c.drop (e+b):=(by grind [ajM,ajw]);have g:a=ag ((c.drop e).take b)+aU b*ag (c.drop (e+b)):=(by grind [md,aib,alu,aji]);have m:=e8 ((j.drop e).take b);have i:=g5 ((j.drop e).take b);rw[fU,na,hG aa] at i;have n:ag (c.drop (e+b))=c[e+b]+4294967296*ag (c.drop (e+b+1)):=mI aa;have o:ag (c.drop (e+b+1))=c.getD (e+b+1) 0+4294967296*ag (c.drop (e+b+2)):=by
   rcases cO (e+b+1) c.length with f|f
   ·grind [mI,kc]
   rw[o4 f,nX f,nX aa];rfl
  rw[g,vS _ _ aa,po m i,n,o];grind
 have h:a/2^l/aU b=a/aU b/2^l:=(by rw[tG (fu q),tG (fu (fQ b)),kQ]);rw[h,r];generalize c[e+b]+4294967296*c.getD (e+b+1) 0=k;have g:∀d:Z,k+4294967296*(4294967296*d)=k+2^l*(4294967296*(2^(32-l)*d)):=λd=>(by grind);rw[g,vS _ _ aa,yi]
theorem WN (a:aQ c) (k:l<32) (i:e<c.length):(br (ag c %(aU e*2^l)≠0))=(br (ag (c.take e)≠0)||br (c[e] %2^l≠0)):=by have g:=jM l;have j:=vk (p:=l) aa;have h:=e8 (a.take e);have d:=g5 (a.take e);rw[fU,hG aa] at d;have f:=NO (x:=ag (c.take e)) (b:=aU e) (y:=ag (c.drop e)) (P:=2^l) (P':=0) (fQ e) ⟨h,d⟩ g;rw[<-oD c e aa] at f;simp_all [mI,j5,yi,ag]
theorem JC {a:ahZ} {n:X} (f:aQ a) (bl:a.length<=10000000) (a0:n<=1000000000):ae (wU (a,(n:Z),())) (λh=>∃e,h=(e,br (ag a %2^n≠0),())/\aQ e/\ag e=ag a/2^n/\e.length<=a.length):=by
 unfold wU;obtain⟨b,d,R,C,o,O⟩:=PP (n:=n) aa;have y:=jM d;have am:=vk (p:=d) aa;have V:(2:Z)^d<=2147483648:=vl aa;have K:(2:Z)^n=aU b*2^d:=(by rw[qq,R,am1]);have E:=e8 f;dsimp only;refine ae.aM (P:=λh=>h=(br (ag (a.take b)≠0),())) ?_ ?_
 ·have a4:∀c,min b a.length=c->br (ag (a.take b)≠0)=br (ag (a.take c)≠0):=λc s=>by
   grind
  refine ae.steps (min b a.length) (λc m=>m=(br (ag (a.take c)≠0),(c:Z),())) (by simp[ag]) ?_ ?_
  ·rintro c _ s rfl;have q:=f.get (n:=c) aa;simp only[o,aC,aK (aa:(c:Z)<(b:Z)),aix,bG,aK (show(c:Z)<al a by grind),e3 (aa:c<a.length),bk (aa:c<9223372036854775807),fX];have v:ag (a.take (c+1))=ag (a.take c)+aU c*a[c]:=it aa;have ad:=e8 (f.take c);have w:=fQ c;by_cases i:ag (a.take c)=0
   ·rw[aI (show¬(ag (a.take c)≠0) fromλk=>k i)];refine bu.2 ?_;show((!br (a[c]=0)),_,())=_;congr 1;rw[v,i];by_cases U:a[c]=0
    ·grind
    have:=qs w (aa:0<a[c]);grind
   rw[aK (show ag (a.take c)≠0 from i)];refine bu.2 ?_;show(bp,_,())=_;congr 1;have:=m9 (fu w) q.1;grind
  rintro _ rfl;simp only[o,aC];by_cases i:min b a.length<b
  ·simp only[aK (aa:((min b a.length:X):Z)<(b:Z)),aix,bG,aI (show¬(((min b a.length:X):Z)<al a) by grind),bP,aC];grind [bu]
  simp only[aI (aa:¬(((min b a.length:X):Z)<(b:Z))),show(bq==bp)=bq from rfl,bP,aC];grind [bu]
 rintro _ rfl;dsimp only;refine ae.bs O (ae.bs o ?_);rw[K];rcases cl b a.length with k|k
 ·obtain⟨g,z⟩:∃g,g=ag (a.drop b):=⟨_,bn⟩;have A:0<=g:=(by rw[z];exact e8 (f.drop b));have Q:ag a=ag (a.take b)+aU b*g:=(by grind [oD]);have N:=e8 (f.take b);have B:=g5 (f.take b);rw[fU,hG aa] at B;have an:ag a/(aU b*2^d)=g/2^d:=by
   rw[<-tG (fu (fQ b)),Q,vS _ _ aa,po N B,ajk]
  obtain⟨l,av⟩:∃l,a.length=b+l:=⟨a.length-b,aa⟩;have ap:g<aU l:=(by have:=g5 (f.drop b);grind);have J:=WN f C k;refine ae.aM (P:=λh=>∃e,h=(br (ag a %(aU b*2^d)≠0),e,())/\e.length=l/\aQ e/\ag e=g/2^d) ?_ ?_
  ·refine ae.steps l (λc m=>∃e,m=(if c=0 then br (ag (a.take b)≠0) else br (ag a %(aU b*2^d)≠0),((b+c:X):Z),e,())/\e.length=c/\aQ e/\ag e+aU c*(g/2^d/aU c)=g/2^d) ⟨[],bn,bn,aQ.nil,by simp[ag,ya]⟩ ?_ ?_
   ·rintro c _ s ⟨e,rfl,aw,t,F⟩;have q:=f.get (n:=b+c) aa;have S:=f.getD (b+c+1);obtain⟨j,D,T,bx⟩:∃j,j=a[b+c]+4294967296*a.getD (b+c+1) 0/\0<=j/\j<18446744073709551616:=⟨_,bn,aa,aa⟩;have L:g/2^d/aU c %4294967296=j/2^d %4294967296:=(by rw[D];exact WF f C aa z);have a3:0<=j/2^d:=aiT T (ail y);have G:aP ((b+c:X):Z)=((b+c+1:X):Z):=bk aa;dsimp only;rw[aY (aK (show((b+c:X):Z)<al a by grind))];refine ae.aM (P:=λh=>h=(br (ag a %(aU b*2^d)≠0),e++[j/2^d %4294967296],())) ?_ ?_
    ·refine ae.bs (e3 aa) ?_;refine ae.aM (P:=λh=>h=(j,e,())) ?_ ?_
     ·rw[G,cQ];refine ae.ite (λi=>?_) λi=>?_
      ·have i:b+c+1<a.length:=(by grind);rw[e3 i,aC,fq (x:=a[b+c+1]) (by grind) (by grind),nQ ab ab];rw[kc i] at D S;have H:a[b+c+1]*2^(32:Z).toNat %18446744073709551616=4294967296*a[b+c+1]:=by
        grind
       rw[aC,H,fq aa aa,m1 32 q.1 q.2 aa aa aa aa];grind [bu]
      grind [bh,o4,fq,bu]
     rintro _ rfl;dsimp only;refine ae.aM (P:=λh=>h=(br (ag a %(aU b*2^d)≠0),e,())) ?_ ?_
     ·refine ae.bs o ?_;by_cases M:c=0
      ·subst M;have r:(((b+0:X):Z)==(b:Z))=bp:=ac;rw[r];simp only[aix,bG];refine ae.bs (e3 aa) ?_;rw[QD aa aa,aC,fC,aj4,rV aa aa,lh aa aa,K5 d (f.get (n:=b+0) aa).1 (f.get (n:=b+0) aa).2 aa,fX,J];grind [aI,bu,aK]
      have r:(((b+c:X):Z)==(b:Z))=bq:=(by grind);rw[r];simp only[show(bq==bp)=bq from rfl,bP];simp_all [ax,bu]
     rintro _ rfl;dsimp only;rw[tn aa aa,bN,aiA,da (by grind),pk];grind [bu]
    rintro _ rfl;dsimp only;refine bu.2 ⟨e++[j/2^d %4294967296],by grind,by grind,t.snoc aa aa,?_⟩;rw[qm,aw,<-L,hV,ai1 4294967296 (aU c),<-amR (ail (fQ c))];grind
   rintro _ ⟨e,rfl,aw,t,F⟩;dsimp only;rw[a1 (aI (show¬(((b+l:X):Z)<al a) by grind)),ck aa];refine bu.2 ⟨e,bn,aw,t,?_⟩;have u:0<=g/2^d:=aiT A (ail y);have I:g/2^d<=g:=aj9 _ A;rw[Int.ediv_eq_zero_of_lt u aa] at F;omega
  grind [bu]
 have u:=g5 f;have I:=pc k;have v:aU b*1<=aU b*2^d:=jO aa (fu (fQ b));rw[po E aa,rV E aa,fG k];refine ae.aM (P:=λh=>h=(br (ag a≠0),[],())) ?_ ?_
 ·refine ae.steps 0 (λc m=>m=(br (ag a≠0),(b:Z),[],())) rfl (λc m s=>by omega) ?_;rintro _ rfl;simp_all [bu,a1,aI,al]
 rintro _ rfl;exact bu.2 ⟨[],bn,aQ.nil,bn,ac⟩
theorem abM (o:aQ c) (p:aQ f) (y:c.length<=10000000) (z:f.length<=10000000):ae (C2 (c,f,())) (λh=>∃a,h=(a,())/\aQ a/\ag a=ag c+ag f/\a.length<=c.length+f.length+1):=by
 unfold C2;dsimp only;obtain⟨g,u⟩:∃g,g=max c.length f.length:=⟨_,bn⟩;have q:(if al f>al c then al f else al c)=(g:Z):=(by grind);rw[q];refine ae.aM (P:=λh=>∃b a,h=(b,a,())/\a.length=g/\aQ a/\0<=b/\b<=1/\ag a+aU g*b=ag c+ag f) ?_ ?_
 ·refine ae.steps g (λd r=>∃b a,r=(b,(d:Z),a,())/\a.length=d/\aQ a/\0<=b/\b<=1/\ag a+aU d*b=ag (c.take d)+ag (f.take d)) ⟨0,[],bn,bn,aQ.nil,aa,aa,by simp[ag]⟩ ?_ ?_
  ·rintro d _ t ⟨b,a,rfl,l,i,j,m,n⟩;have w:=o.getD d;have x:=p.getD d;obtain⟨e,v,A,B,s⟩:∃e,e=b+c.getD d 0+f.getD d 0/\0<=e/\e<18446744073709551616/\e/4294967296<=1:=⟨_,bn,aa,aa,aa⟩;dsimp only;rw[aY (aK (aa:(d:Z)<(g:Z)))];refine ae.aM (P:=λh=>h=(e/4294967296,a++[e %4294967296],())) ?_ ?_
   ·refine ae.aM (P:=λh=>h=(b+c.getD d 0,a,())) ?_ ?_
    ·simp only[cQ];refine ae.ite (λk=>?_) λk=>?_
     ·grind [fq,bu,kc,e3,bh]
     simp_all [o4,akL,bu]
    rintro _ rfl;refine ae.aM (P:=λh=>h=(e,a,())) ?_ ?_
    ·simp only[cQ];refine ae.ite (λk=>?_) λk=>?_
     ·grind [fq,bu,kc,e3,bh]
     simp_all [o4,akL,bu]
    grind [da,pk,m4,bu]
   rintro _ rfl;dsimp only;refine bu.2 ⟨e/4294967296,a++[e %4294967296],by rw[bk aa],by grind,i.snoc aa aa,aa,s,?_⟩;rw[qm,l,hV,x4,x4];grind
  rintro _ ⟨b,a,rfl,l,i,j,m,n⟩;dsimp only;rw[a1 (aI (aa:¬((g:Z)<(g:Z))))];grind [bu,ch]
 rintro _ ⟨b,a,rfl,l,i,j,m,n⟩;dsimp only;rw[da (by grind),lh j aa];refine bu.2 ⟨a++[b],bn,i.snoc j aa,?_,by grind⟩;grind [qm]
theorem QE (a:Z):eJ .u64 a 63=Y (a/9223372036854775808):=by have:eJ .u64 a 63=Y (a.fdiv 9223372036854775808):=rfl;grind
theorem Qn (o:aQ c) (p:aQ f) (A:c.length<=10000000) (w:f.length<=c.length) (x:ag f<=ag c):ae (zp (c,f,())) (λg=>∃a,g=(a,())/\aQ a/\ag a=ag c-ag f/\a.length=c.length):=by
 unfold zp;dsimp only;refine ae.aM (P:=λg=>∃a b,g=(a,())/\a.length=c.length/\aQ a/\0<=b/\b<=1/\ag a-aU c.length*b=ag c-ag f) ?_ ?_
 ·refine ae.steps c.length (λd q=>∃b a,q=(b,(d:Z),a,())/\a.length=d/\aQ a/\0<=b/\b<=1/\ag a-aU d*b=ag (c.take d)-ag (f.take d)) ⟨0,[],bn,bn,aQ.nil,aa,aa,by simp[ag]⟩ ?_ ?_
  ·rintro d _ l ⟨b,a,rfl,h,i,j,k,m⟩;have y:=o.get l;have z:=p.getD d;obtain⟨e,v,r,s⟩:∃e,e=c[d]-b-f.getD d 0/\-4294967296<=e/\e<4294967296:=⟨_,bn,aa,aa⟩;dsimp only;rw[aY (aK (show(d:Z)<al c by grind))];refine ae.aM (P:=λg=>g=(-(e/4294967296),a++[e %4294967296],())) ?_ ?_
   ·refine ae.bs (e3 l) ?_;refine ae.aM (P:=λg=>g=(e %18446744073709551616,a,())) ?_ ?_
    ·simp_all [bh,o4,bu,rP,e3,kc,ae.ite,cQ]
    grind [da,pk,QE,bu]
   rintro _ rfl;dsimp only;refine bu.2 ⟨-(e/4294967296),a++[e %4294967296],by rw[bk aa],by grind,i.snoc aa aa,aa,aa,?_⟩;rw[qm,h,hV,it l,x4];grind
  rintro _ ⟨b,a,rfl,h,i,j,k,m⟩;dsimp only;rw[a1 (aI (show¬((c.length:Z)<al c) by grind))];refine bu.2 ⟨a,b,bn,h,i,j,k,?_⟩;simp_all [ch,cj]
 rintro _ ⟨a,b,rfl,h,i,j,k,m⟩;have n:=g5 i;have t:=fQ c.length;rw[h] at n;have u:b=0:=(by grind);grind [bu]
theorem acv {h:ahZ} (y:aQ f) (q:b<f.length) (z:aQ c) (L:b+c.length<e) (J:e<=100000000) (w:h.length=e) (x:aQ h) (C:iJ h (b+c.length)) {p:iI->Prop} (K:∀g a,a.length=e->aQ a->iJ a (b+c.length)->0<=g->g<4294967296->ag a+aU (b+c.length)*g=ag h+aU b*(f[b]*ag c)->p (g,a,())):ae (loop (σ:=pK) (ρ:=iI) (λ(k,j,m,_)=>
 bif br (j<al c) then
 (ao f (b:Z)).bind λu=>
 (ao c j).bind λs=>
 rd m (ay ((b:Z)+j)) λt=>
 wr m (ay ((b:Z)+j)) (dc (aL (aL (k+aL (aL u*aL s))+aL t))) λI=>
 (eJ bC (aL (aL (k+aL (aL u*aL s))+aL t)) 32).bind λH=>
 Y (.inl (H,aP j,I,())) else
 Y (.inr (k,m,()))) (0,0,h,())) p:=by
 refine ae.steps c.length (λd G=>∃g a,G=(g,(d:Z),a,())/\a.length=e/\aQ a/\iJ a (b+c.length)/\0<=g/\g<4294967296/\ag a+aU (b+d)*g=ag h+aU b*(f[b]*ag (c.take d))) ⟨0,h,bn,w,x,C,aa,aa,by simp[ag]⟩ ?_ ?_
 ·rintro d _ l ⟨g,a,rfl,aw,o,r,D,E,F⟩;have A:=y.get q;have B:=z.get l;have N:=o.get (n:=b+d) aa;have M:=Aj A B;obtain⟨i,O,P,Q⟩:∃i,i=g+f[b]*c[d]+a[b+d]/\0<=i/\i<18446744073709551616:=⟨_,bn,aa,aa⟩;simp only[aK (show(d:Z)<al c by grind),bG,e3 l,e3 q,aC];have aq:ay ((b:Z)+(d:Z))=((b+d:X):Z):=(by grind [cL]);rw[aq,js aa];have v:aL (aL (g+aL (aL f[b]*aL c[d]))+aL a[b+d])=i:=by
   grind [fq]
  rw[v,pk,lO aa,m4];refine bu.2 ⟨i/4294967296,a.set (b+d) (i %4294967296),by rw[bk aa],by grind,o.set aa aa,r.JL _ aa,aa,aa,?_⟩;rw[mJ aa,(aa:b+(d+1)=(b+d)+1),hV,it l];grind [tD,ajj]
 rintro _ ⟨g,a,rfl,aw,o,r,D,E,F⟩;simp_all [fG,bc,bu,aI,bh,bP,al]
theorem ack (s:aQ f) (t:aQ c) (v:f.length<=10000000) (w:c.length<=10000000):ae (C4 (f,c,())) (λg=>∃a,g=(a,())/\aQ a/\ag a=ag f*ag c/\a.length=f.length+c.length):=by
 unfold C4;dsimp only;have r:ay (al f+al c)=((f.length+c.length:X):Z):=(by grind [cL,bh]);rw[r,h9 aa,bN];refine ae.aM (P:=λg=>∃a,g=(a,())/\a.length=f.length+c.length/\aQ a/\ag a=ag f*ag c) ?_ ?_
 ·refine ae.steps f.length (λb u=>∃a,u=((b:Z),a,())/\a.length=f.length+c.length/\aQ a/\iJ a (b+c.length)/\ag a=ag (f.take b)*ag c) ⟨_,bn,ac,aQ.lQ _,iJ.lQ _ _,by simp[ag,pj]⟩ ?_ ?_
  ·rintro b _ m ⟨a,rfl,aw,o,p,q⟩;dsimp only;rw[aY (aK (show(b:Z)<al f by grind))];refine ae.aM (P:=λg=>∃e d,g=(e,d,())/\d.length=f.length+c.length/\aQ d/\iJ d (b+c.length)/\0<=e/\e<4294967296/\ag d+aU (b+c.length)*e=ag a+aU b*(f[b]*ag c)) (acv s m t aa aa aw o p λe d n k h i j l=>⟨e,d,bn,n,k,h,i,j,l⟩) ?_;rintro _ ⟨e,d,rfl,n,k,h,i,j,l⟩;have aq:ay ((b:Z)+al c)=((b+c.length:X):Z):=(by grind [cL,bh]);dsimp only;rw[aq,lh i j,lO aa];refine bu.2 ⟨d.set (b+c.length) e,by rw[bk aa],by grind,k.set i j,?_,?_⟩
   ·rw[(aa:b+1+c.length=b+c.length+1)];exact h.set _
   rw[mJ aa,h _ (bc _) aa,it m,Int.sub_zero,l,q];grind
  rintro _ ⟨a,rfl,aw,o,p,q⟩;dsimp only;rw[a1 (aI (show¬((f.length:Z)<al f) by grind))];grind [bu]
 grind [bu]
section
section
variable {α B:Type}
theorem Js {d c e:bm α} {k:X} (g:k<c.length) (f:a=((d.length+k:X):Z)) (b:α->bv B):rd (d++(c++e)) a b=b c[k]:=by subst f;refine abY aa ?_ b;grind
theorem aen {b c d:bm α} {k:X} (g:k<c.length) (h:a=((b.length+k:X):Z)) (f:α) (e:bm α->bv B):wr (b++(c++d)) a f e=e (b++(c.set k f++d)):=by subst h;rw[lO (by grind),AY g]
end
theorem adD {A w C v:ahZ} {g:Z} (u:aQ v) (x:aQ w) (V:w.length=v.length+1) (O:A.length+w.length<=100000000) (H:0<=g/\g<4294967296):ae (zq (A++(w++C),v,(A.length:Z),g,())) (λd=>(ag w<g*ag v/\d=(A++(w++C),bq,()))\/(∃l,g*ag v<=ag w/\d=(A++(l++C),bp,())/\l.length=w.length/\aQ l/\ag l=ag w-g*ag v)):=by
 unfold zq;dsimp only;have y:aP (al v)=((v.length+1:X):Z):=(by grind [bk,bh]);rw[y,h9 aa,bN];have R:=e8 u;have Q:=e8 x;refine ae.aM (P:=λd=>∃c b,d=(c,A++(w++C),b,())/\b.length=v.length+1/\aQ b/\0<=c/\c<=1/\ag b-aU (v.length+1)*c=ag w-g*ag v) ?_ ?_
 ·refine ae.steps (v.length+1) (λa p=>∃c h b,p=(c,h,(a:Z),A++(w++C),b,())/\b.length=v.length+1/\aQ b/\iJ b a/\0<=h/\h<4294967296/\(a=v.length+1->h=0)/\0<=c/\c<=1/\ag b-aU a*(c+h)=ag (w.take a)-g*ag (v.take a)) ⟨0,0,bJ (v.length+1) 0,bn,ac,aQ.lQ _,iJ.lQ _ _,aa,aa,λ_=>rfl,aa,aa,by simp[ag,pj]⟩ ?_ ?_
  ·rintro a _ I ⟨c,h,b,rfl,m,i,j,q,o,r,D,E,s⟩;have L:=u.getD a;have ad:=x.get (n:=a) aa;have U:=Aj H L;obtain⟨f,K,am,an⟩:∃f,f=h+g*v.getD a 0/\0<=f/\f<18446744073709551616:=⟨_,bn,aa,aa⟩;obtain⟨e,S,M,N⟩:∃e,e=w[a]-c-f %4294967296/\-4294967296<=e/\e<4294967296:=⟨_,bn,aa,aa⟩;dsimp only;rw[aY (aK (show(a:Z)<=al v by grind))];refine ae.aM (P:=λd=>d=(-(e/4294967296),f/4294967296,A++(w++C),b.set a (e %4294967296),())) ?_ ?_
   ·refine ae.aM (P:=λd=>d=(f,A++(w++C),b,())) ?_ ?_
    ·rw[cQ];refine ae.ite (λB=>?_) λB=>?_
     ·grind [fq,bu,kc,e3,bh]
     grind [bh,o4,bu]
    rintro _ rfl;dsimp only;have aq:ay ((a:Z)+(A.length:Z))=((A.length+a:X):Z):=(by grind [cL]);have z:aL (aL (aL w[a]-c)-ey bC f 4294967295)=e %18446744073709551616:=(by grind [and_low32,rP]);rw[Js (k:=a) aa aq,m4,bN,z,lO aa,QE,bN,pk];refine bu.2 ?_;grind
   rintro _ rfl;dsimp only;refine bu.2 ⟨-(e/4294967296),f/4294967296,b.set a (e %4294967296),by rw[bk aa],by grind,i.set aa aa,j.set _,aa,aa,?_,aa,aa,?_⟩
   ·grind
   rw[mJ aa,j a (bc _) aa,hV,it (aa:a<w.length),x4];grind
  rintro _ ⟨c,h,b,rfl,m,i,j,q,o,r,D,E,s⟩;dsimp only;rw[a1 (aI (show¬(((v.length+1:X):Z)<=al v) by grind))];have G:=r bn;subst G;rw[ch aa,ch aa,akL] at s;grind [bu]
 rintro _ ⟨c,b,rfl,m,i,j,q,o⟩;have J:=g5 i;have T:=e8 i;have K:=fQ (v.length+1);rw[m] at J;dsimp only;rw[fX];by_cases t:c=0
 ·rw[aK t];subst t;rw[aj3] at o;refine ae.aM (P:=λd=>d=(A++(b++C),())) ?_ ?_
  ·refine ae.steps (v.length+1) (λa p=>p=((a:Z),A++((b.take a++w.drop a)++C),b,())) rfl ?_ ?_
   ·rintro a _ I rfl;have aq:ay ((a:Z)+(A.length:Z))=((A.length+a:X):Z):=(by grind [cL]);dsimp only;rw[aY (aK (show(a:Z)<=al v by grind)),js aa,aen (k:=a) (by grind) aq,bk aa];refine bu.2 ?_;show(_,A++(List.set (b.take a++w.drop a) a b[a]++C),b,())=(_,A++((b.take (a+1)++w.drop (a+1))++C),b,());congr 4;have F:b.take (a+1)=b.take a++[b[a]]:=(by simp_all);rw[akO _ _ (by grind),F,aib,aji aa,Nat.sub_self,List.drop_eq_getElem_cons (aa:a<w.length),List.set_cons_zero,aiB];rfl
   rintro _ rfl;dsimp only;rw[a1 (aI (show¬(((v.length+1:X):Z)<=al v) by grind))];grind [ch,alR,bu]
  grind [bu]
 grind [aI,bu]
theorem ab1 {n:X} (D:aQ c) (cs:ag c=a) (io:c.length=n+1) (ge:a<aU (n+1)) (gf:1<=c[n]) (dl:aQ f) (gc:ag f=d) (co:f.length=e) (hw:e=b+(n+1)) (f8:e<=10000000) (ib:1<=b) (c2:ag (f.drop b)<a) (s:ahZ) (gi:s.length=n+1) {J:jT->Prop} (f9:∀l j,l.length=b->aQ l->j.length=e->aQ j->ag j+a*ag l=d->ag j<a->J (j,l,())):ae (loop (σ:=(Z×bf×bf×bt)) (ρ:=jT) (λ(t,E,U,_)=>
 bif br (t>=0) then
 rd E (ay (t+al s)) λft=>
 (h2 bC (aL ft) 32).bind λfz=>
 rd E (ay (ay (t+al s)-1)) λfT=>
 (ao c (ay (al s-1))).bind λf0=>
 (ki bC (fN bC fz (aL fT)) (aL f0)).bind λan=>
 (loop (σ:=(Z×bf×bf×bt)) (ρ:=(Z×bf×bf×bt)) (λ(F,fn,V,_)=>
 (zq (fn,c,t,F,())).bind λ(R,el,_)=>
  bif !el then
 Y (.inl (aL (F-1),R,V,())) else
 Y (.inr (F,R,V,()))) ((if 4294967295<an then 4294967295 else an),E,U,())).bind λ(a3,fp,d9,_)=>
 wr d9 t (dc a3) λf1=>
 Y (.inl (ay (t-1),fp,f1,())) else
 Y (.inr (E,U,()))) (((b:Z)-1),f,bJ b (0:Z),())) J:=by
 have is:ag c=ag (c.take n)+aU n*c[n]:=(by grind [it,ch]);have ii:=e8 (D.take n);have d0:=g5 (D.take n);rw[fU,hG aa] at d0;have d1:=D.get (n:=n) aa;have G:0<a:=(by have:=qs (fQ n) (aa:0<c[n]);omega);refine ae.steps b (λq z=>∃l j,z=(((b:X):Z)-1-q,j,l,())/\l.length=b/\aQ l/\(∀i,i<b-q->(c1:i<l.length)->l[i]=0)/\j.length=e/\aQ j/\ag j+a*ag l=d/\ag (j.drop (b-q))<a) ⟨bJ b 0,f,ac,ac,aQ.lQ _,ac,co,dl,by grind [pj],c2⟩ ?_ ?_
 ·rintro q _ hr ⟨l,j,rfl,aw,S,T,fl,B,a4,K⟩;obtain⟨i,c1⟩:∃i,b=i+1+q:=⟨b-1-q,aa⟩;have aq:((b:X):Z)-1-(q:Z)=(i:Z):=aa;rw[(aa:b-q=i+1)] at K;obtain⟨p,bl⟩:∃p,p=j.take i:=⟨_,bn⟩;obtain⟨h,N⟩:∃h,h=(j.drop i).take (n+2):=⟨_,bn⟩;obtain⟨m,bx⟩:∃m,m=j.drop (i+(n+2)):=⟨_,bn⟩;have L:p.length=i:=(by grind);have i0:h.length=n+2:=(by rw[N,fU,na];omega);have ds:j=p++(h++m):=by
   grind [ajM,ajw]
  have f6:m.length=e-(i+(n+2)):=(by grind);have d8:aQ p:=(by rw[bl];exact B.take i);have u:aQ h:=(by rw[N];exact(B.drop i).take _);have Q:aQ m:=(by rw[bx];exact B.drop _);have gl:ag (j.drop i)=ag h+aU (n+2)*ag m:=(by grind [List.drop_of_length_le,md]);have go:ag (j.drop i)=j[i]+4294967296*ag (j.drop (i+1)):=mI aa;have i2:=B.get (n:=i) aa;have ce:=e8 Q;have f7:0<=aU (n+2)*ag m:=m9 (fu (fQ _)) ce;have hv:ag (j.drop i)<4294967296*a:=aa;have d2:=e8 u;have ci:ag m=0:=by
   rcases iV 0 (ag m) with o|o
   ·exfalso;have:=jO (aa:1<=ag m) (fu (fQ (n+2)));grind [hV]
   omega
  have H:0<=ag h/a:=aiT d2 aa;have M:ag h/a<4294967296:=amV G aa;have gs:=ajj (ag h) a;have ic:=aj6 (ag h) G;have id:=aj7 (ag h) (aa:a≠0);have O:=u.get (n:=n+1) aa;have d3:=u.get (n:=n) aa;have i1:ay ((i:Z)+al s)=((p.length+(n+1):X):Z):=(by simp only[bh];rw[cL aa aa];omega);have d4:ay (ay ((i:Z)+al s)-1)=((p.length+n:X):Z):=(by rw[i1,cL aa aa];omega);have d5:ay (al s-1)=((n:X):Z):=(by simp only[bh];rw[cL aa aa];omega);obtain⟨em,eq⟩:=Ft (x:=h[n+1]) (y:=h[n]) O d3;obtain⟨ex,i8⟩:=EW (x:=4294967296*h[n+1]+h[n]) (y:=c[n]) ⟨aa,aa⟩ aa;have hi:ag h/a<=(4294967296*h[n+1]+h[n])/c[n]:=(by rw[akP aa];have f2:ag h=ag (h.take n)+aU n*(4294967296*h[n+1]+h[n]):=(by grind [FC]);have ap:=g5 (u.take n);rw[aib,aji aa] at ap;have f3:aU n*(ag h/a*c[n])<=ag h:=(by have f4:ag h/a*(aU n*c[n])<=ag h/a*a:=akQ aa H;grind);have av:aU n*(ag h/a*c[n])<aU n*(4294967296*h[n+1]+h[n]+1):=(by grind);have:=aj8 av (ail (fQ n));omega);dsimp only;rw[aq,aY (aK (aa:(i:Z)>=0))]
  conv=>arg 1;rw[ds]
  rw[Js (k:=n+1) aa i1];refine ae.bs (by rw[fq O.1 aa];exact em) ?_;rw[Js (k:=n) aa d4];refine ae.bs (by rw[d5];exact e3 aa) ?_;refine ae.bs (by rw[eq,fq d1.1 aa];exact ex) ?_;refine ae.aM (P:=λek=>∃r,ek=(ag h/a,p++(r++m),l,())/\r.length=n+2/\aQ r/\ag r=ag h %a) ?_ ?_
  ·have gt:0<=(4294967296*h[n+1]+h[n])/c[n]:=mi aa aa;refine aik (λz=>∃o,z=(o,p++(h++m),l,())/\ag h/a<=o/\o<4294967296) (λz=>z.1.toNat) ⟨_,bn,aa,aa⟩ ?_;rintro _ ⟨o,rfl,f5,a0⟩;have ad:=adD (A:=p) (w:=h) (C:=m) (v:=c) (g:=o) D u aa aa ⟨aa,a0⟩;rw[L] at ad;refine ae.aM ad ?_;rintro _ (⟨I,rfl⟩|⟨r,I,rfl,i3,d6,d7⟩)
   ·have hc:ag h/a<o:=by
     grind
    refine bu.2 ⟨⟨o-1,by rw[fq aa aa],aa,aa⟩,?_⟩;show(aL (o-1)).toNat<o.toNat;rw[fq aa aa];omega
   rw[cs] at I d7;have hs:o<=ag h/a:=(akP G).2 I;have cv:o=ag h/a:=aa;refine bu.2 ⟨r,by rw[cv],aa,d6,?_⟩;grind
  rintro _ ⟨r,rfl,jp,fs,am⟩;dsimp only;rw[lh H M,lO aa];refine bu.2 ⟨l.set i (ag h/a),p++(r++m),?_,by grind,S.set H M,?_,by simp;omega,aQ.append.2 ⟨d8,aQ.append.2 ⟨fs,Q⟩⟩,?_,?_⟩
  ·rw[cL aa aa];grind
  ·grind [List.getElem_set_ne]
  ·rw[mJ aa,T i aa aa,md,md,L,am];grind [L9,md]
  rw[(aa:b-(q+1)=i),rY aa,qu aa,iu,md,ci,am];omega
 rintro _ ⟨l,j,rfl,aw,S,T,fl,B,a4,K⟩;have aq:¬(((b:X):Z)-1-(b:Z)>=0):=aa;simp_all [bu,oM,lV,aI,bP]
end
theorem XI {n:X} (f:aQ c) (j:e5 c) (t:c.length=n+1):∃d:X,d<=31/\ux (c[n],())=Y ((d:Z),())/\ag c*2^d<aU (n+1)/\2147483648*aU n<=ag c*2^d:=by
 have i:=f.get (n:=n) aa;have m:c[n]≠0:=j _ (by grind);have o:ag c=ag (c.take n)+aU n*c[n]:=(by grind [it,ch]);have p:=e8 (f.take n);have h:=g5 (f.take n);rw[fU,hG aa] at h;generalize c[n]=u at*;obtain⟨a,rfl⟩:=fR i.1;have g:0<a:=aa;have r:aN a<=32:=gj.2 aa;have q:=pP g;obtain⟨k,l⟩:=ua g;obtain⟨b,s⟩:∃b,aN a=b+1:=⟨aN a-1,aa⟩;refine⟨32-aN a,aa,?_,?_,?_⟩
 ·unfold ux;refine ai (Ie (n:=a) aa) ?_;grind [cL]
 ·have aq:ag c<aU n*2^aN a:=by
   have:aU n*((a:Z)+1)<=aU n*2^aN a:=jO (by grind) (fu (fQ _));grind
  have e:ag c*2^(32-aN a)<aU n*2^aN a*2^(32-aN a):=rW aq (jM _);rw[j5,<-lU,(aa:aN a+(32-aN a)=32)] at e;grind [ai1,hV]
 have aq:aU n*2^b<=ag c:=(by have:aU n*2^b<=aU n*(a:Z):=jO (by grind) (fu (fQ _));omega);have e:aU n*2^b*2^(32-aN a)<=ag c*2^(32-aN a):=m8 aq (fu (jM _));rw[j5,<-lU,(aa:b+(32-aN a)=31)] at e;omega
theorem adC (a:aQ c) (e:b<=c.length) (f:ag c<aU b):ag (c.take b)=ag c:=by
 have g:=oD c b e;have h:=e8 (a.drop b);have i:=e8 (a.take b);rcases iV 0 (ag (c.drop b)) with d|d
 ·exfalso;have:=jO (aa:1<=ag (c.drop b)) (fu (fQ b));omega
 grind
theorem ab2 (l:aQ f) (m:aQ c) (I:e5 f) (w:e5 c) (ds:f.length<=1000000) (d0:c.length<=1000000) (co:c≠[]):C3 (f,c,())=Y (eQ (ag f/ag c).toNat,eQ (ag f %ag c).toNat,()):=by
 unfold C3;refine bQ.1 ?_;have C:=e8 l;have O:0<ag c:=(by have:=e8 m;grind [e5.zero]);refine ae.bs (PT l m I w aa aa) ?_;dsimp only;rw[cQ];refine ae.ite (λs=>?_) λs=>?_
 ·have o:ag f<ag c:=LM.1 s;refine bu.2 ?_;rw[po C o,rV C o];show(([]:ahZ),f,())=(eQ 0,eQ (ag f).toNat,());rw[Hm,<-e5.eq l I]
 have cs:ag c<=ag f:=Int.not_lt.1 (mt LM.2 s);obtain⟨b,D⟩:∃b,c.length=b+1:=(by simp_all [yo]);have aq:ay (al c-1)=((b:X):Z):=(by grind [cL,bh]);obtain⟨d,av,a0,a3,d6⟩:=XI m w D;have cv:b+1<=f.length:=by
  rcases cO f.length (b+1) with j|j
  ·have:=ql l m w aa;omega
  omega
 have E:=jM d;refine ae.bs (y:=c[b]) (by grind [e3]) (ae.bs a0 ?_);refine ae.aM (JB l aa (n:=d) aa) ?_;rintro _ ⟨p,rfl,H,G,F⟩;refine ae.aM (JB m aa (n:=d) aa) ?_;rintro _ ⟨K,rfl,ap,dl,am⟩;rw[(aa:d/32=0),amW] at F am;have N:al c=((b+1:X):Z):=(by grind);dsimp only;refine ae.bs (y:=(0,b+1)) ?_ ?_
 ·rw[N,aC,vc,aC,p4 ⟨c8 _,aa⟩,aC,Jj aa];rfl
 obtain⟨h,V⟩:∃h,h=(K.take (b+1)).drop 0:=⟨_,bn⟩;have ad:h=K.take (b+1):=(by grind);have u6:aQ h:=(by rw[ad];exact ap.take _);have S:ag h=ag c*2^d:=(by grind [adC]);have an:h.length=b+1:=(by grind);have U:1<=h[b]:=by
  have u:ag h=ag (h.take b)+aU b*h[b]:=(by grind [it,ch]);have k:=g5 (u6.take b);rw[fU,hG aa] at k;have c1:=fQ b;rcases iV h[b] 1 with j|j
  ·exfalso;have:h[b]=0:=(by have:=u6.get (n:=b) aa;omega);grind
  omega
 dsimp only;rw[<-V];refine ae.bs (y:=(h,p,())) ?_ ?_
 ·grind
 obtain⟨g,T⟩:∃g,f.length+1=g+(b+1):=⟨f.length+1-(b+1),aa⟩;have M:ay (al f-al c)=(g:Z)-1:=(by grind [cL,bh]);have a4:aP (ay (al f-al c))=((g:X):Z):=(by grind [cr]);dsimp only;refine ae.bs (y:=g) (by grind [h9]) ?_;have o:ag (p.drop g)<ag c*2^d:=(by have t:=oD p g aa;have x:=e8 (H.take g);rw[G] at t;have u:ag f*2^d<aU f.length*2^d:=akM (g5 l) E;have z:aU f.length=aU g*aU b:=(by grind [tD]);have k:aU g*ag (p.drop g)<aU g*(aU b*2^d):=(by grind [Int.mul_assoc]);have v:=aj8 k (ail (fQ g));have bx:aU b*2^d<=aU b*2147483648:=akQ (vl av) (ail (fQ _));omega);rw[M];refine ae.aM (P:=λL=>∃e i,L=(i,e,())/\e.length=g/\aQ e/\i.length=f.length+1/\aQ i/\ag i+ag c*2^d*ag e=ag f*2^d/\ag i<ag c*2^d) (ab1 u6 S an a3 U H G F T aa aa o c D λe i t x u z k v=>⟨e,i,bn,t,x,u,z,k,v⟩) ?_;rintro _ ⟨e,i,rfl,aw,d5,d7,J,k,v⟩;have c2:=e8 J;have ce:ag i=2^d*(ag f-ag c*ag e):=(by grind);have Q:0<=ag f-ag c*ag e:=by
  rcases iV (ag f-ag c*ag e) 0 with j|j
  ·have:=amX E j;omega
  omega
 have R:ag f-ag c*ag e<ag c:=(by simp_all [aj8,ail,ai1,ag]);have ci:ag i/2^d=ag f-ag c*ag e:=(by grind [amY]);obtain⟨bl,f2⟩:=EX (A:=ag f) (B:=ag c) (q:=ag e) (r:=ag f-ag c*ag e) O aa Q R;dsimp only;refine ae.bs (Fb J aa) ?_;dsimp only;refine ae.aM (JC (a:=ir i) (n:=d) (J6 i) (by grind [Q7]) aa) ?_;rintro _ ⟨d1,rfl,d2,d3,d4⟩;grind [J7,ae.bs,Fb,bu,Q7,ir]
theorem Jn {x y:Z} (n:aN x.natAbs<=3000000) (o:aN y.natAbs<=3000000):sw (aS x,aS y,())=Y (aS (x+y),()):=by
 obtain⟨a,f,r⟩:=hR n;obtain⟨b,g,s⟩:=hR o;unfold sw;dsimp only;refine bQ.1 ?_;refine ae.bs (tk a f aa) (ae.bs (tk b g aa) ?_);dsimp only;have u:=il x;have v:=il y;have p:(aS x).1=br (x<0):=rfl;have q:(aS y).1=br (y<0):=rfl;rw[p,q];by_cases m:(br (x<0)==br (y<0))=bp
 ·rw[aY m];refine ae.aM (abM a b aa aa) ?_;rintro _ ⟨k,rfl,d,e,l⟩;refine ae.bs (th d (by grind) e) (bu.2 ?_);grind
 rw[a1 (by grind)];have t:¬(x<0↔y<0):=(by grind);refine ae.bs (PT a b f g aa aa) ?_;dsimp only;rw[cQ];refine ae.ite (λh=>?_) λh=>?_
 ·have j:=BM.1 h;have i:(aS y).2.1.length<=(aS x).2.1.length:=by
   rcases cO (aS x).2.1.length (aS y).2.1.length with c|c
   ·have:=ql a b g c;omega
   omega
  refine ae.aM (Qn a b aa i j) ?_;rintro _ ⟨k,rfl,d,e,l⟩;refine ae.bs (th d (by grind) e) (bu.2 ?_);grind
 have j:ag (aS x).2.1<ag (aS y).2.1:=Int.not_le.1 (mt BM.2 h);have i:(aS x).2.1.length<=(aS y).2.1.length:=by
  rcases cO (aS y).2.1.length (aS x).2.1.length with c|c
  ·have:=ql b a f c;omega
  omega
 refine ae.aM (Qn b a aa i (fu j)) ?_;rintro _ ⟨k,rfl,d,e,l⟩;refine ae.bs (th d (by grind) e) (bu.2 ?_);grind
theorem Qm (b:aN a.natAbs<=3000000) (c:aN d.natAbs<=3000000):wS (aS a,aS d,())=Y (aS (a-d),()):=by simp_all [ai,Jn,aka,Int.sub_eq_add_neg,P9,wS]
theorem acj (i:aN a.natAbs<=3000000) (j:aN d.natAbs<=3000000):C1 (aS a,aS d,())=Y (aS (a*d),()):=by
 obtain⟨b,e,m⟩:=hR i;obtain⟨c,f,n⟩:=hR j;unfold C1;dsimp only;refine bQ.1 ?_;refine ae.bs (tk b e aa) (ae.bs (tk c f aa) ?_);dsimp only;refine ae.aM (ack b c aa aa) ?_;rintro _ ⟨o,rfl,k,l,p⟩;refine ae.bs (th k (by grind) l) (bu.2 ?_);dsimp only;rw[il,il];congr 2;show(if(!(br (a<0)==br (d<0)))=bp then _ else _)=_;rcases ai0 a 0 with g|g<;>rcases ai0 d 0 with h|h
 ·grind
 ·grind
 ·grind
 grind
theorem Jx {n:Z} (b:-9223372036854775808<=n) (c:n<=9223372036854775807):sx (n,())=Y (aS n,()):=by
 unfold sx;dsimp only;obtain⟨a,d,e,f⟩:∃a:Z,a=n.natAbs/\0<=a/\a<=9223372036854775808:=⟨_,bn,aa,aa⟩;refine ai (y:=(a,(bq,([],())),())) ?_ ?_
 ·rw[cQ];grind [fq,cr,cL]
 dsimp only;rw[m4,bN,pk a,lh (x:=a/4294967296) aa aa];refine ai (AT (aQ.cons.2 ⟨⟨aa,aa⟩,aQ.cons.2 ⟨⟨aa,aa⟩,aQ.nil⟩⟩) ac) ?_;grind [ag,hg]
theorem JA {z:Z} {n:X} (a:aN z.natAbs<=3000000) (g:n<=10000000):n9 (aS z,(n:Z),())=Y (aS (z*2^n),()):=by obtain⟨c,e,f⟩:=hR a;unfold n9;dsimp only;refine bQ.1 ?_;refine ae.bs (xU a) ?_;dsimp only;rw[aY (aK (aa:(n:Z)>=0))];refine ae.aM (JB c aa (n:=n) aa) ?_;rintro _ ⟨h,rfl,d,b,i⟩;rw[il] at b;refine ae.bs (th d (by grind) b) (bu.2 ?_);dsimp only;congr 2;show(if br (z<0)=bp then _ else _)=_;grind
theorem acy (j:aN a.natAbs<=2900000) (q:b<=10000000) (r:0<b):n9 (aS a,-(b:Z),())=Y (aS (a/2^b),()):=by
 obtain⟨f,o,p⟩:=hR (z:=a) aa;have i:=jM b;unfold n9;dsimp only;refine bQ.1 ?_;refine ae.bs (xU aa) ?_;dsimp only;have aq:ay (0- -(b:Z))=(b:Z):=(by grind [cL]);rw[a1 (aI (aa:¬(-(b:Z)>=0))),aq];refine ae.aM (JC f aa (n:=b) aa) ?_;rintro _ ⟨u,rfl,k,e,v⟩;rw[il] at e|-;dsimp only;refine ae.bs (th k aa e) ?_;dsimp only;have l:(aS a).1=br (a<0):=rfl;rw[l];have s:0<=(a.natAbs:Z)/2^b:=aiT aa aa;have t:(a.natAbs:Z)/2^b<=a.natAbs:=aj9 _ aa;have c:=Oj (m:=a.natAbs) i aa;refine ae.bs (y:=((bq,([],())),aS (a/2^b),())) ?_ (bu.2 bn);by_cases g:a<0
 ·rw[aK g];rw[(aa:-(a.natAbs:Z)=a)] at c;by_cases d:(a.natAbs:Z) %2^b=0
  ·grind
  rw[aK (show(a.natAbs:Z) %2^b≠0 from d)];refine ai bn ?_;dsimp only[bG];rw[ck d] at c;refine ai (Jx ab ab) ?_;dsimp only;have h:aN (-((a.natAbs:Z)/2^b)).natAbs<=3000000:=(by rw[gj];have:=gj.1 j;omega);rw[ca bn];refine ai (Qm h ab) ?_;grind
 grind
theorem abR (c:aN a.natAbs<=2900000) (e:aN d.natAbs<=2900000):CY (aS a,aS d,())=Y (fF a d,()):=by unfold CY;refine ai (Qm aa aa) ?_;have b:aN (a-d).natAbs<=3000000:=(by have f:=S7 2900000 c e;have g:=l3 (aa:(a-d).natAbs<=a.natAbs+d.natAbs);omega);refine ai (lL b) ?_;grind [gB,fF]
def Gp (a:aN e<=b) (c:aN l<=b):aN (e+l)<=b+1:=by rw[gj,tR];have:=gj.1 a;have:=gj.1 c;omega
def ab3 {x y:Z} (o:aN x.natAbs<=3000000) (j:aN y.natAbs<=3000000) (F:0<=x) (c:y≠0):CZ (aS x,aS y,())=Y (aS (x/y),aS (x %y),()):=by
 obtain⟨m,p,q⟩:=hR o;obtain⟨n,r,s⟩:=hR j;have w:(aS y).2.1≠[]:=λt=>c (w8.1 t);unfold CZ;refine ai (xU o) (ai (xU j) ?_);dsimp only;refine ai (ab2 m n p r aa aa w) ?_;rw[il,il];have A:(aS x).1=bq:=aI aa;have C:(aS y).1=br (y<0):=rfl;rw[A,C];have f:0<=(x.natAbs:Z)/(y.natAbs:Z):=aiT aa aa;have g:(x.natAbs:Z)/(y.natAbs:Z)<=x.natAbs:=aj9 _ aa;have h:0<=(x.natAbs:Z) %(y.natAbs:Z):=aj7 _ aa;have i:(x.natAbs:Z) %(y.natAbs:Z)<(y.natAbs:Z):=aj6 _ aa;have d:∀a:Z,a<=x.natAbs->(eQ a.toNat).length<=100000:=λa k=>A5 (l:=(aS x).2.1) m q (by rw[il];exact k);have e:∀a:Z,a<=y.natAbs->(eQ a.toNat).length<=100000:=λa k=>A5 (l:=(aS y).2.1) n s (by rw[il];exact k);dsimp only;refine ai (th (ob _) (by have:=d _ g;omega) (uQ f)) (ai (th (ob _) (by have:=e _ (ail i);omega) (uQ h)) ?_);dsimp only;rw[ck (ac:¬(bq=bp))];have aq:(x.natAbs:Z)=x:=aa;rw[aq] at*;have u:x %(y.natAbs:Z)=x %y:=by
  rcases iV y 0 with b|b
  ·rw[(aa:(y.natAbs:Z)=-y),amZ]
  rw[(aa:(y.natAbs:Z)=y)]
 rw[u] at*;have D:0<=x %y:=nV _ c;have E:x %y<y.natAbs:=Int.emod_lt x c;have z:aN (x %y).natAbs<=3000000:=(by clear f g h i d e;generalize x %y=B at*;exact eD (l3 aa) j);have v:(if(!(bq==br (y<0)))=bp then-(x/(y.natAbs:Z)) else x/(y.natAbs:Z))=x/y:=by
  rcases iV y 0 with b|b
  ·rw[aK b,(aa:(y.natAbs:Z)=-y),am0];simp
  rw[aI (aa:¬y<0),(aa:(y.natAbs:Z)=y)];simp
 rw[v];refine ai (y:=((bq,([],())),(bq,([],())),aS (x/y),aS (x %y),())) ?_ bn;refine ai (lL z) ?_;dsimp only;rw[a1 (aI ?_)];clear f g h i d e;generalize x %y=B at*;unfold gB;split;omega;split<;>omega
def P4 {z:Z} {n:X} (c:aN z.natAbs<=3000000) (e:n<=10000000):zm (aS z,(n:Z),())=Y (br ((z.natAbs:Z) %2^n≠0),()):=by obtain⟨a,b,d⟩:=hR c;unfold zm;dsimp only;refine bQ.1 ?_;refine ae.bs (tk a b aa) ?_;dsimp only;refine ae.aM (JC a aa (n:=n) aa) ?_;rintro _ ⟨f,rfl,g,h,i⟩;rw[il];exact bu.2 bn
def ach {z:Z} (p:0<=z) (d:z<9223372036854775808):C0 (aS z,())=Y (z,bp,()):=by
 have f:aN z.natAbs<=64:=gj.2 aa;obtain⟨b,n,o⟩:=hR (z:=z) aa;have q:(aS z).2.1.length<=2:=zL aa;unfold C0;dsimp only;refine bQ.1 ?_;refine ae.bs (xU aa) ?_;dsimp only;rw[a1 (aI (show¬(al (aS z).2.1>2) by simp only[bh];omega))];refine ae.aM (P:=λl=>l=(z,aS z,())) ?_ ?_
 ·have k:=il z;refine ae.steps (aS z).2.1.length (λa m=>m=(ag ((aS z).2.1.take a),(a:Z),aS z,())) rfl ?_ ?_
  ·rintro a _ c rfl;have h:=b.get c;dsimp only;rw[aY (aK (show(a:Z)<al (aS z).2.1 by simp only[bh];omega)),e3 c,bN];have d:=e8 (b.take a);have e:=g5 (b.take a);rw[aib,aji aa,qq] at e;have aq:ay (32*(a:Z))=((32*a:X):Z):=(by rw[cL aa aa];simp);have f:(2:Z)^(32*a)<=4294967296:=by
    rcases(aa:a=0\/a=1) with rfl|rfl<;>decide
   have j:=jM (32*a);have r:(aS z).2.1[a]*2^(32*a)<4294967296*4294967296:=(by have:=jO f h.1;omega);have g:0<=(aS z).2.1[a]*2^(32*a):=m9 h.1 (fu j);rw[aq,fq (x:=(aS z).2.1[a]) aa aa,nQ aa aa,aC,fC,rV g aa,m1 (32*a) d e g aa aa (akN _ _),bk aa];refine bu.2 ?_;show(_,_,aS z,())=(_,_,aS z,());rw[it c,qq,kQ (2^(32*a))]
  rintro _ rfl;dsimp only;rw[a1 (aI (show¬(((aS z).2.1.length:Z)<al (aS z).2.1) by simp only[bh];omega)),ch (cj _),k];refine bu.2 ?_;show(((z.natAbs:X):Z),aS z,())=_;rw[(aa:((z.natAbs:X):Z)=z)]
 rintro _ rfl;have i:(aS z).1=bq:=aI aa;dsimp only;rw[i,bP,a1 (aI (aa:¬(z>9223372036854775807))),cL aa aa];exact bu.2 bn
theorem QB (h:aN d.natAbs<=1900000) (f:-1048576<=a) (g:a<=1048576):qW (aS d,a,())=Y (aS (rI d a),0,()):=by
 rcases iV a 0 with e|e
 ·obtain⟨b,c⟩:∃b:X,a=-(b:Z):=⟨(-a).toNat,aa⟩;subst c;grind [acR,xZ]
 obtain⟨b,c⟩:∃b:X,a=(b:Z):=⟨a.toNat,aa⟩;grind [acS,pf]
theorem Jz (h:aN d.natAbs<=2900000) (f:-10000000<=a) (g:a<=10000000):n9 (aS d,a,())=Y (aS (rI d a),()):=by
 rcases iV a 0 with e|e
 ·obtain⟨b,c⟩:∃b:X,a=-(b:Z):=⟨(-a).toNat,aa⟩;subst c;grind [acy,xZ]
 obtain⟨b,c⟩:∃b:X,a=(b:Z):=⟨a.toNat,aa⟩;grind [JA,pf]
def eI (a:Z):Z:=if a=0 then 0 else e7 a
theorem Ex:cG 0=0:=rfl
theorem hz (a:Z):az (Y a)=(bq,aS (cG a),eI a,()):=by
 by_cases b:a=0
 ·subst b;rfl
 rw[Mq b,eI,ax b]
theorem kj (b:fO a):aN (cG a).natAbs<=131072:=by
 by_cases c:a=0
 ·subst c;exact b
 grind [Ot,fO]
theorem kK (b:fO a):-65536<=eI a/\eI a<=65536:=by grind [ts,fO,e7,eI]
theorem Eo (c:fO a):hJ (cG a) (eI a)=Y a:=by
 by_cases b:a=0
 ·subst b;rfl
 rw[eI,ax b,Xe c]
theorem XR (c:a=0\/d<=e7 a) (g:-65536<=d):cG a*2^(eI a-d).toNat*2^(d+65536).toNat=a:=by
 by_cases b:a=0
 ·grind [Ex]
 have e:=rA a;have f:=c.resolve_left b;rw[eI,ax b,j5,<-lU];grind [e7,cT]
theorem Mp (z:a≠0) (v:¬(d+cT a.natAbs< -65536\/65536<d+aN a.natAbs)):az (hJ a d)=(bq,aS (a/2^cT a.natAbs),d+cT a.natAbs,())/\(hJ a d).isSome=bp:=by
 obtain⟨c,s⟩:∃c,c=rI a (d+65536):=⟨_,bn⟩;have r:hJ a d=Y c:=(by simp_all [ax,hJ]);rw[r];refine⟨?_,bn⟩;obtain⟨h,y⟩:=tu (n:=a.natAbs) aa;have o:=(sS (n:=a.natAbs) (k:=cT a.natAbs) aa).1 (bc _);have q:a/2^cT a.natAbs*2^cT a.natAbs=a:=zJ o;have A:(a/2^cT a.natAbs).natAbs=2*h+1:=(by grind [alM,aj2,Ak]);generalize x:cT a.natAbs=e at*;generalize w:a/2^e=j at*;have t:c=j*2^(d+e+65536).toNat:=by
  rw[s,<-q];rcases amJ 0 (d+65536) with l|l
  ·obtain⟨b,g⟩:∃b:X,d+65536=b:=⟨(d+65536).toNat,aa⟩;rw[g,pf,j5,<-lU];grind
  obtain⟨b,g⟩:∃b:X,d+65536=-(b:Z):=⟨(-(d+65536)).toNat,aa⟩;obtain⟨i,p⟩:∃i:X,e=i+b:=⟨e-b,aa⟩;rw[g,xZ,p,lU,<-j5,alS _ (by have:=jM b;omega)];grind
 obtain⟨f,m⟩:∃f:X,d+e+65536=f:=⟨(d+e+65536).toNat,aa⟩;rw[m,fC] at t;have u:c.natAbs=(2*h+1)*2^f:=(by grind [jo]);have B:cT c.natAbs=f:=x3 u;have C:c≠0:=(by grind);grind [alS,jM,Mq,e7,cG]
theorem P3 {m:Z} {n:X} (e:aN m.natAbs<=1900000) (f:n<=1048576):yW (aS m,(n:Z),())=Y (aS (m/2^n),()):=by
 unfold yW;dsimp only;refine bQ.1 ?_;refine ae.aM (P:=λc=>c=((n:Z),aS m,(bq,([],())),())) ?_ ?_
 ·refine ae.steps 0 (λb a=>a=((n:Z),aS m,(bq,([],())),())) rfl (λb a d=>by omega) ?_;rintro _ rfl;dsimp only;rw[a1 (aI (aa:¬((n:Z)>1048576)))];grind [bu]
 grind [cL,alT,ae.bs,QB,bu,xZ]
theorem z8 {m k:Z} (b:aN m.natAbs<=1900000) (c:0<=k) (a:k<=1048576):oY (aS m,k,())=Y (aS (m*2^k.toNat),()):=by unfold oY;refine ai (QB b aa a) ?_;grind [pf,cB]
theorem On (q:aN a.natAbs<=900000) (o:-1000000000000<=d) (p:d<=1000000000000):pT ((bq,aS a,d,()),())=Y (az (hJ a d),(hJ a d).isSome,()):=by
 obtain⟨g,l,m⟩:=hR (z:=a) aa;unfold pT;dsimp only;rw[bP];have f:=XJ (b:=aS a) g aa;rw[oC] at f;refine ai f ?_;refine ai (tp (jH aa)) ?_;dsimp only;rw[gD,cQ];split
 ·rename_i c;have:a=0:=by
   grind [gB]
  subst this;rfl
 rename_i c;have e:a≠0:=(by intro d;subst d;exact c bn);have r:=ts (n:=a.natAbs) aa;refine ai (Ri (jH aa) e) ?_;dsimp only;by_cases j:d+cT a.natAbs< -65536\/65536<d+aN a.natAbs
 ·have k:hJ a d=bo:=(by simp_all [ax,au,hJ]);rw[k];refine ai (y:=.inr (az bo,bq,())) ?_ bn;refine ai (y:=(bp,(bq,((bq,([],())),((0:Z),()))),aS a,())) ?_ bn;refine ai (wq (jH aa)) ?_;grind [aI,aK,cL]
 obtain⟨h,i⟩:=Mp e j;rw[h,i];refine ai (y:=.inl ((bq,((bq,([],())),((0:Z),()))),aS a,())) ?_ ?_
 ·refine ai (y:=(bq,(bq,((bq,([],())),((0:Z),()))),aS a,())) ?_ bn;refine ai (wq (jH aa)) ?_;grind [aI,cL]
 refine ai (P3 aa aa) ?_;grind [cL]
theorem Al (b:cP i):pT (az i,())=Y (az i,i.isSome,()):=by
 cases i with
 |none=>rfl
 |some c=>
  have a:=b c bn;have d:=kj a;have e:=kK a;grind [hz,On,Eo]
def Ek (e:aN d.natAbs<=900000) (b:-1000000000000<=a) (c:a<=1000000000000):uo (aS d,a,())=Y (az (hJ d a),()):=by unfold uo;exact ai (On e b c) rfl
def Hg (a:cP i):wC (az i,())=Y (az i,()):=by unfold wC;exact ai (Al a) rfl
def xY (a:ahT):Z:=gB (a.getD 0)
theorem Qz (a:Z):gB (cG a)=gB a:=by
 unfold gB;have:=An (v:=a);by_cases b:a=0
 ·subst b;rfl
 simp_all [jr,ax]
def o1 (a:cP i):mT (az i,())=Y (xY i,()):=by
 unfold mT;refine ai (Al a) ?_;cases i with
 |none=>exact ai (tp (z:=0) (jH ab)) rfl
 |some b=>
  have c:=kj (a b bn);rw[hz];refine ai (tp (jH aa)) ?_;show Y (gB (cG b),())=_;rw[Qz];rfl
theorem J8 {a b:ahT} (c:cP a) (d:cP b):wE (az a,az b,())=Y (az a,az b,a.isSome&&b.isSome,()):=by unfold wE;refine ai (Al c) (ai (Al d) ?_);grind
def cU (c d:ahT):ahT:=c.bind λa=>d.bind λb=>hJ (cG a*cG b) (eI a+eI b)
def cK (a b:ahT):ahT:=a.bind λc=>b.bind λd=>oV (c+d)
def c7 (a:ahT):ahT:=a.map λb=>-b
def Bv (a:ahT):ahT:=a.map λb=>(b.natAbs:Z)
theorem kE (b c:ahT):cP (cU b c):=by
 intro d a;unfold cU at a;cases b with
 |none=>cases a
 |some e=>cases c with
  |none=>cases a
  |some f=>exact Iy _ _ d a
theorem kT (b c:ahT):cP (cK b c):=by
 intro d a;unfold cK at a;cases b with
 |none=>cases a
 |some e=>cases c with
  |none=>cases a
  |some f=>exact Tv _ d a
theorem Oi (b:cP i):cP (c7 i):=by
 intro d a;cases i with
 |none=>cases a
 |some c=>cases a;have:=b c bn;grind [aka,fO]
def pX (a:cP i) (b:cP k):nw (az i,az k,())=Y (az (cU i k),()):=by
 unfold nw;refine ai (J8 a b) ?_;cases i with
 |none=>rfl
 |some c=>
  cases k with
  |none=>rfl
  |some d=>
   have e:=kj (a c bn);have f:=kj (b d bn);have g:=kK (a c bn);have h:=kK (b d bn);rw[hz,hz];refine ai (Xm aa aa) ?_;dsimp only;rw[cL aa aa];refine ai (Ek ?_ aa aa) rfl;rw[am2];have:=BH e f;omega
theorem IM (a:Z):cG (-a)=-cG a:=by have b:=rA a;grind [Int.eq_of_mul_eq_mul_right,Int.neg_mul,jM,aka,rA,cG,cT]
theorem Hs (a:Z):eI (-a)=eI a:=by simp_all [ax,aka,eI,e7]
theorem XP (a:Z):cG (a.natAbs:Z)=((cG a).natAbs:Z):=by
 have c:=An (v:=a);rcases iV a 0 with b|b
 ·grind [IM]
 grind
theorem UF (a:Z):eI (a.natAbs:Z)=eI a:=by grind [Hs,ai0]
def T4 (b:cP i):BS (az i,())=Y (az (c7 i),()):=by
 unfold BS;refine ai (Al b) ?_;cases i with
 |none=>rfl
 |some a=>
  have c:=kj (b a bn);rw[hz];refine ai (ai (Ok (jH aa)) rfl) ?_;show Y ((bq,aS (-cG a),eI a,()),())=Y (az (Y (-a)),());rw[hz,IM,Hs]
def jN (a b:Z):Z:=cG a*2^(eI a-b).toNat
theorem Fv (b:d=0\/a<=e7 d) (c:-65536<=a):jN d a*2^(a+65536).toNat=d:=XR b c
def tv (b:a=0\/d<=e7 a) (f:-65536<=d) (g:fO a):aN (jN a d).natAbs<=131072:=by
 have c:=Fv b f;have e:(jN a d).natAbs<=a.natAbs:=by
  conv=>rhs;rw[<-c,jo]
  exact Nat.le_mul_of_pos_right _ (jy _)
 exact eD (l3 e) g
def NC (c:a=0\/d<=e7 a) (h:-65536<=d) (i:d<=65536) (b:fO a) (e:d<=eI a):oY (aS (cG a),eI a-d,())=Y (aS (jN a d),()):=by have f:=kj b;have g:=kK b;exact z8 aa aa aa
theorem N3 (b:-65536<=a) (c:d=0\/a<=e7 d) (e:p=0\/a<=e7 p):hJ (jN d a+jN p a) a=oV (d+p):=by grind [Int.add_mul,Fv,Ep]
theorem ms (b:d<=eI a):a=0\/d<=e7 a:=by
 by_cases c:a=0
 ·omega
 simp_all [ax,eI]
def KY (f:fO a) (g:fO d):∃b,b<=eI a/\b<=eI d/\-65536<=b/\b<=65536/\yU (az (Y a),az (Y d),())=Y (aS (jN a b),aS (jN d b),b,()):=by have h:=kK f;have i:=kK g;refine⟨if eI d<eI a then eI d else eI a,aa,aa,aa,aa,?_⟩;unfold yU;rw[hz,hz];dsimp only;generalize j:(if eI d<eI a then eI d else eI a)=b;have aq:b<=eI a:=aa;have c:b<=eI d:=aa;have e:-65536<=b:=aa;rw[cL (x:=eI a-b) aa aa,cL (x:=eI d-b) aa aa];exact ai (NC (ms aq) e aa f aq) (ai (NC (ms c) e aa g c) rfl)
def L4 (e:cP i) (b:cP k):yR (az i,az k,())=Y (az (cK i k),()):=by
 unfold yR;refine ai (J8 e b) ?_;cases i with
 |none=>rfl
 |some h=>
  cases k with
  |none=>rfl
  |some j=>
   have f:=e h bn;have g:=b j bn;obtain⟨c,aq,d,a,o,n⟩:=KY f g;have l:=tv (ms aq) a f;have m:=tv (ms d) a g;refine ai n (ai (KV aa aa) ?_);have b:aN (jN h c+jN j c).natAbs<=131073:=eD (l3 (am3 _ _)) (Gp l m);refine ai (Ek aa aa aa) ?_;rw[N3 a (ms aq) (ms d)];rfl
def Hh (b:cP i) (a:cP k):wD (az i,az k,())=Y (az (cK i (c7 k)),()):=by unfold wD;exact ai (T4 a) (ai (L4 b (Oi a)) rfl)
theorem Kc (c:-65536<=a) (h:d=0\/a<=e7 d) (i:p=0\/a<=e7 p):jN d a<jN p a↔d<p:=by
 have f:=Fv h c;have g:=Fv i c;have e:=jM (a+65536).toNat;constructor
 ·intro b;have:=rW b e;omega
 intro b;rw[<-f,<-g] at b;exact Int.lt_of_mul_lt_mul_right b (fu e)
theorem L5 (e:fO d) (f:fO p):yS (az (Y d),az (Y p),())=Y (fF d p,bp,()):=by unfold yS;refine ai (J8 (a:=Y d) (b:=Y p) (λj i=>by grind) (λj i=>by grind)) ?_;obtain⟨m,aq,g,c,n,h⟩:=KY e f;have k:=tv (ms aq) c e;have l:=tv (ms g) c f;refine ai h (ai (LN aa aa) ?_);grind [Kc,ms,fF]
def jn (a:Z):ahT:=hJ a 0
def zI (b:-9223372036854775808<=a) (c:a<=9223372036854775807):qV (a,())=Y (az (jn a),()):=by unfold qV;have d:aN a.natAbs<=64:=gj.2 aa;exact ai (DS b c) (ai (Ek aa ab ab) rfl)
def Q5:et->Z
 |[]=>0
 |d::a=>d.getD 0+Q5 a
def K0:et->bA
 |[]=>bp
 |d::a=>d.isSome&&K0 a
def adn (a:et):ahT:=if K0 a=bp then oV (Q5 a) else bo
theorem jv:(gB a==0)=br (a=0):=by rw[gD,cx];unfold gB;omega
theorem Ju {m:Z} {n:X} (e:aN m.natAbs<=1900000) (f:n<=1048576):wW (aS m,(n:Z),())=Y (aS (m/2^n),()):=by
 unfold wW;dsimp only;refine bQ.1 ?_;refine ae.aM (P:=λc=>c=((n:Z),aS m,(bq,([],())),())) ?_ ?_
 ·refine ae.steps 0 (λb a=>a=((n:Z),aS m,(bq,([],())),())) rfl (λb a d=>by omega) ?_;rintro _ rfl;dsimp only;rw[a1 (aI (aa:¬((n:Z)>1048576)))];grind [bu]
 grind [cL,alT,ae.bs,Jz,bu,xZ]
theorem P5 {b:pn} {m:Z} (e:aQ b.2.1) (s:b.2.1.length<=100000000) (h:hg b=m) (E:aN m.natAbs<=900000) (w:-1000000000000<=a) (z:a<=1000000000000):o0 (b,a,())=Y (az (hJ m a),()):=by
 unfold o0;dsimp only;have g:=Qa e s;rw[h] at g;refine ai g ?_;dsimp only;rw[sX,cQ];split
 ·rename_i c;have:=w8.1 c;subst this;rfl
 rename_i c;have f:m≠0:=λa=>c (w8.2 a);have F:=ts (n:=m.natAbs) aa;have D:=pP (m:=m.natAbs) aa;rw[cQ];split
 ·rename_i i;have d:hJ m a=bo:=(by unfold hJ;grind);rw[d];rfl
 rename_i i;refine ai (Qo aa f) (ai (AJ aa) (ai (Ju (m:=(m.natAbs:Z)) (by grind) aa) ?_));have r:=(sS (n:=m.natAbs) (k:=cT m.natAbs) aa).1 (cj _);have p:(m.natAbs:Z)/2^cT m.natAbs=(((m/2^cT m.natAbs).natAbs:X):Z):=(by grind [Ak,xP,akR]);have o:aN ((m/2^cT m.natAbs).natAbs)=aN m.natAbs-cT m.natAbs:=(by rw[Ak r,ws]);rw[p];dsimp only;rw[cL (x:=a+(cT m.natAbs:Z)) aa aa];by_cases q:a+cT m.natAbs< -65536\/65536<a+aN m.natAbs
 ·have d:hJ m a=bo:=(by simp_all [ax,au,hJ]);rw[d];refine ai (y:=.inr (az bo,())) ?_ bn;refine ai (y:=(bp,(bq,((bq,([],())),((0:Z),()))),aS ((m/2^cT m.natAbs).natAbs:Z),())) ?_ bn;by_cases j:a+(cT m.natAbs:Z)< -65536
  ·grind
  rw[aI j];refine ai (AK (by grind)) ?_;rw[akS,o];dsimp only;rw[cL aa aa,aK (aa:a+(cT m.natAbs:Z)+((aN m.natAbs-cT m.natAbs:X):Z)>65536)]
 obtain⟨l,A⟩:=Mp f q;rw[l];refine ai (y:=.inl ((bq,((bq,([],())),((0:Z),()))),aS ((m/2^cT m.natAbs).natAbs:Z),())) ?_ ?_
 ·refine ai (y:=(bq,(bq,((bq,([],())),((0:Z),()))),aS ((m/2^cT m.natAbs).natAbs:Z),())) ?_ bn;rw[aI (aa:¬(a+(cT m.natAbs:Z)< -65536))];refine ai (AK (by grind)) ?_;grind [cL,aI,akS]
 dsimp only;congr 3;have t:b.1=br (m/2^cT m.natAbs<0):=(by have B:(m/2^cT m.natAbs<0)↔m<0:=An (v:=m);have C:b.1=br (m<0):=(by have u:=e8 e;unfold hg at h;grind);grind);rw[t];rfl
def xT {e:Z} (d:aN a.natAbs<=900000) (b:-1000000000000<=e) (c:e<=1000000000000):o0 (aS a,e,())=Y (az (hJ a e),()):=
 P5 (mr a) (by have:=(hR (z:=a) aa).2.2;omega) (oC a) d b c
def ov {d:ahT} (c:cP d):mq (az d,())=Y (az d,()):=by
 cases d with
 |none=>rfl
 |some b=>
  have a:=c b bn;have f:=kj a;have g:=kK a;unfold mq;rw[hz];refine ai (xT (e:=eI b) aa aa aa) ?_;rw[Eo a,hz]
theorem q6 (a:ahT):(az a).1=!a.isSome:=by
 cases a with
 |none=>rfl
 |some b=>rw[hz];rfl
def ab5 (a:cP i):Da (az i,())=Y (xY i,()):=by
 unfold Da;refine ai (ov a) ?_;cases i with
 |none=>rfl
 |some b=>
  have c:=kj (a b bn);rw[hz];refine ai (lL aa) ?_;show Y (gB (cG b),())=_;rw[Qz];rfl
theorem ab4 (b:cP i):C8 (az i,())=Y (az (c7 i),()):=by
 unfold C8;refine ai (ov b) ?_;cases i with
 |none=>rfl
 |some a=>
  have c:=b a bn;have f:=kj c;have g:=kK c;rw[hz];refine ai (P9 aa) (ai (xT (e:=eI a) (by grind) aa aa) ?_);have d:fO (-a):=(by grind [aka,fO]);rw[<-IM,<-Hs,Eo d];rfl
theorem abZ (b:cP i):C5 (az i,())=Y (az (Bv i),()):=by
 unfold C5;refine ai (ov b) ?_;cases i with
 |none=>rfl
 |some a=>
  have c:=b a bn;have f:=kj c;have g:=kK c;rw[hz];refine ai (AJ aa) (ai (xT (e:=eI a) (by grind) aa aa) ?_);have d:fO (a.natAbs:Z):=(by grind [akS,fO]);rw[<-XP,<-UF,Eo d];rfl
theorem Rj (a:Z):jN 0 a=0:=by unfold jN;rw[Ex,pq]
theorem Fw (a:Z):jN a (eI a)=cG a:=by grind [jN]
theorem KX (g:fO a) (h:fO d):∃b,(a=0\/b<=e7 a)/\(d=0\/b<=e7 d)/\-65536<=b/\b<=65536/\sA (az (Y a),az (Y d),())=Y (aS (jN a b),aS (jN d b),b,()):=by
 have k:=kK g;have l:=kK h;have i:=kj g;have j:=kj h;by_cases c:a=0
 ·subst c;refine⟨eI d,.inl bn,ms (ajH _),aa,aa,?_⟩;unfold sA;rw[hz,hz];refine ai (lL aa) ?_;grind [jv,aK,Rj,Fw]
 by_cases e:d=0
 ·subst e;refine⟨eI a,ms (ajH _),.inl bn,aa,aa,?_⟩;unfold sA;rw[hz,hz];refine ai (lL aa) ?_;dsimp only;rw[jv,aI (jr c)];refine ai (lL aa) ?_;grind [jv,aK,Rj,Fw]
 by_cases f:eI a>eI d
 ·refine⟨eI d,ms aa,ms (ajH _),aa,aa,?_⟩;unfold sA;rw[hz,hz];refine ai (lL aa) ?_;dsimp only;rw[jv,aI (jr c)];refine ai (lL aa) ?_;dsimp only;rw[jv,aI (jr e),aK f,cL aa aa,Fw];refine ai (Jz aa aa aa) ?_;grind [pf,jN,eI]
 refine⟨eI a,ms (ajH _),ms aa,aa,aa,?_⟩;unfold sA;rw[hz,hz];refine ai (lL aa) ?_;dsimp only;rw[jv,aI (jr c)];refine ai (lL aa) ?_;dsimp only;rw[jv,aI (jr e),aI f,cL (x:=eI d-eI a) aa aa,Fw];refine ai (Jz aa aa aa) ?_;grind [pf,jN,eI]
theorem AM (h:cP i) (f:cP k):sy (az i,az k,())=Y (az (cK i k),()):=by
 unfold sy;refine ai (ov h) (ai (ov f) ?_);cases i with
 |none=>rfl
 |some a=>
  cases k with
  |none=>dsimp only;rw[hz a];rfl
  |some c=>
   have j:=h a bn;have l:=f c bn;obtain⟨b,aq,g,d,p,o⟩:=KX j l;have m:=tv aq d j;have n:=tv g d l;refine ai (y:=.inl (az (Y a),az (Y c),(bq,((bq,([],())),((0:Z),()))),())) ?_ ?_
   ·grind [q6]
   dsimp only;refine ai o (ai (Jn aa aa) ?_);have f:aN (jN a b+jN c b).natAbs<=131073:=cz (l3 (am3 _ _)) (Gp m n);refine ai (xT (e:=b) aa aa aa) ?_;rw[N3 d aq g];rfl
def EZ (b:cP i) (a:cP k):uE (az i,az k,())=Y (az (cK i (c7 k)),()):=by unfold uE;exact ai (ab4 a) (ai (AM b (Oi a)) rfl)
def kI (a:cP i) (b:cP k):kb (az i,az k,())=Y (az (cU i k),()):=by
 unfold kb;refine ai (ov a) (ai (ov b) ?_);cases i with
 |none=>rfl
 |some c=>
  cases k with
  |none=>dsimp only;rw[hz c];rfl
  |some d=>
   have e:=kj (a c bn);have f:=kj (b d bn);have g:=kK (a c bn);have h:=kK (b d bn);rw[hz,hz];refine ai bn ?_;dsimp only;refine ai (acj aa aa) ?_;dsimp only;rw[cL aa aa];refine ai (xT ?_ aa aa) rfl;rw[am2];have:=BH e f;omega
theorem ab0 (e:fO p) (f:fO a):C6 (az (Y p),az (Y a),())=Y (fF p a,bp,()):=by
 unfold C6;refine ai (ov (d:=Y p) (λk h=>by grind)) (ai (ov (d:=Y a) (λk h=>by grind)) ?_);obtain⟨n,aq,c,b,o,g⟩:=KX e f;have l:=tv aq b e;have m:=tv c b f;refine ai (y:=.inl (az (Y p),az (Y a),())) ?_ ?_
 ·dsimp only;rw[q6,q6];rfl
 dsimp only;refine ai g (ai (abR aa aa) ?_);have i:=Kc b aq c;have j:=Kc b c aq;dsimp only;unfold fF;simp only[i,j]
def Jt (b:-9223372036854775808<=a) (c:a<=9223372036854775807):wV (a,())=Y (az (jn a),()):=by unfold wV;have d:aN a.natAbs<=64:=gj.2 aa;exact ai (Jx b c) (ai (xT aa ab ab) rfl)
def bd (a:Z):Z:=a/4503599627370496 %2048
def fy (a:Z):Z:=a %4503599627370496
def eK (a:Z):Prop:=0<=a/\a<18446744073709551616
def a6 (a:Z):ahT:=
 if bd a=2047 then bo
 else hJ (if a<9223372036854775808 then if bd a=0 then fy a else fy a+4503599627370496 else-(if bd a=0 then fy a else fy a+4503599627370496)) (if bd a=0 then-1074 else bd a-1075)
theorem gO (b:Z):cP (a6 b):=by
 intro c a;unfold a6 at a;split at a
 ·cases a
 exact Iy _ _ c a
def Jg (b:eK a):wG (a,())=Y (bd a,fy a,()):=by unfold wG;dsimp only;have c:=b.1;have d:=b.2;rw[tn ab ab,bN,show(2:Z)^(52:Z).toNat=4503599627370496 from rfl,sa 11 aa aa 2047 ab ab,sa 52 aa aa 4503599627370495 ab ab,cL aa aa];rfl
theorem Lp (g:eK a):(ey bC a 9223372036854775808 !=0)=br (9223372036854775808<=a):=by
 obtain⟨c,j⟩:=g;obtain⟨b,rfl⟩:=fR c;have f:b<18446744073709551616:=aa;have d:(9223372036854775808:Z)=((2^63:X):Z):=rfl;rw[d,K4 f ab,fX];rcases cO b (2^63) with e|e
 ·have h:b&&&2^63=0:=by
   refine amM λk=>?_;rw[amN,alB,Nat.zero_testBit];grind
  grind
 have h:b&&&2^63≠0:=(by intro i;have c:(b&&&2^63).testBit 63=bq:=(by grind);grind);grind
theorem Xs (b:eK a):BZ (a,())=Y (br (9223372036854775808<=a),()):=by grind [Lp,BZ]
theorem z2 {f:Z} (a:eK f):ny (f,())=Y (!br (bd f=2047),()):=by simp_all [fX,ai,Jg,ny]
def k5 (a:Z):Z:=if bd a=2047 then if fy a=0 then 2 else 3 else if bd a=0/\fy a=0 then 0 else 1
theorem Wg (b:eK a):BW (a,())=Y (k5 a,()):=by unfold BW k5;refine ai (Jg b) ?_;grind
theorem uR (a:Z):0<=fy a/\fy a<4503599627370496:=by grind [fy]
theorem zN (a:Z):0<=bd a/\bd a<2048:=by grind [bd]
theorem p7 (g:eK a):jW (a,())=Y (az (a6 a),()):=by
 unfold jW a6;have o:=uR a;have n:=zN a;refine ai (Jg g) ?_;dsimp only;rw[gD,gD];by_cases e:bd a=2047
 ·rw[aK e,au e];rfl
 rw[aI e,ax e];obtain⟨b,d,h,i,j,k,l,f⟩:∃b d,(bif br (bd a=0) then some (Sum.inl ((-1074:Z),fy a,((false,((false,([],())),((0:Z),()))):fL),())) else some (.inl (ay (bd a-1075),fN bC (fy a) 4503599627370496,(false,((false,([],())),((0:Z),()))),())):bv ((Z×Z×fL×bt)⊕he))=some (.inl (d,b,(false,((false,([],())),((0:Z),()))),()))/\0<=b/\b<9007199254740992/\-1074<=d/\d<=972/\(b=(if bd a=0 then fy a else fy a+4503599627370496)/\d=(if bd a=0 then-1074 else bd a-1075)):=by
  by_cases c:bd a=0
  ·refine⟨fy a,-1074,?_,aa,aa,aa,aa,by rw[au c],by rw[au c]⟩;grind
  refine⟨fy a+4503599627370496,bd a-1075,?_,aa,aa,aa,aa,by rw[ax c],by rw[ax c]⟩;rw[aI c,cL aa aa,m1 52 aa aa aa aa aa ab];rfl
 rw[<-f.1,<-f.2];refine ai h ?_;dsimp only;rw[cL aa aa];have m:aN b.natAbs<=53:=gj.2 aa;refine ai (DS aa aa) ?_;refine ai (y:=((bq,((bq,([],())),((0:Z),()))),aS (if a<9223372036854775808 then b else-b),())) ?_ ?_
 ·refine ai (Xs g) ?_;dsimp only;by_cases c:a<9223372036854775808
  ·grind
  rw[aK (aa:9223372036854775808<=a),ax c];exact ai (Ok (jH aa)) rfl
 dsimp only;refine ai (Ek ?_ aa aa) rfl;grind
def o2 (d:bA) (a:X) (b:Z) (c:bA):wh:=(d,aS (a:Z),b,c,())
theorem oo (a:X):(a:Z).natAbs=a:=by omega
theorem WK (e:aN b<=900000) (c:-10000000<=a) (d:a<=10000000):BU (o2 j b a g,())=Y (a+aN b-1,()):=by unfold BU o2;refine ai (wq (jH (by grind))) ?_;grind [cL,oo]
theorem TV (o:aN b<=900000) (u:0<b) (B:0<e) (C:e<=10000000):yT (o2 j b a g,(e:Z),())=Y (aS ((b/2^e:X):Z),kx b e g,br (b %2^e=0)&&!g,()):=by
 unfold yT o2;refine ai (wq (jH (by grind))) ?_;rw[oo];dsimp only;have D:=aj2 e;rw[cQ];split
 ·rename_i q;have r:b<2^(e-1):=gj.1 aa;obtain⟨c,rfl⟩:∃c,e=c+1:=⟨e-1,aa⟩;simp only[amU] at r;have aq:b %2^(c+1)=b:=Nat.mod_eq_of_lt aa;have h:b/2^(c+1)=0:=alU aa;rw[aq,h];have i:kx b (c+1) g=-1:=(by unfold kx;omega);rw[i,aI (aa:¬b=0)];rfl
 rename_i q;have w:=aky b (2^e);have E:aN (b/2^e)<=900000:=cz (l3 (alV _ _)) o;have F:aN (b %2^e)<=900000:=cz (l3 (alW _ _)) o;have s:b/2^e*2^e<=b:=Nat.div_mul_le_self _ _;refine ai (P3 (m:=(b:Z)) (n:=e) (by grind) aa) ?_;have aq:(b:Z)/2^e=((b/2^e:X):Z):=(by grind);rw[aq];refine ai (z8 (m:=((b/2^e:X):Z)) (k:=(e:Z)) (by grind) aa aa) ?_;have h:((b/2^e:X):Z)*2^(e:Z).toNat=((b/2^e*2^e:X):Z):=(by grind);rw[h];refine ai (adl (x:=(b:Z)) (y:=((b/2^e*2^e:X):Z)) (by grind) (by rw[oo];exact cz (l3 s) aa)) ?_;have i:(b:Z)-((b/2^e*2^e:X):Z)=((b %2^e:X):Z):=(by grind);rw[i];refine ai (DS (n:=1) ab ab) ?_;dsimp only;rw[cL (x:=(e:Z)-1) aa aa];refine ai (z8 (m:=1) (k:=(e:Z)-1) ab aa aa) ?_;obtain⟨c,rfl⟩:∃c,e=c+1:=⟨e-1,aa⟩;have p:(1:Z)*2^(((c+1:X):Z)-1).toNat=((2^c:X):Z):=(by grind);rw[p];have A:aN (2^c)<=900000:=(by have:aN (2^c)<=c+1:=gj.2 (amG ab aa);omega);refine ai (LN (x:=((b %2^(c+1):X):Z)) (y:=((2^c:X):Z)) (by grind) (by grind)) ?_;dsimp only;have v:(if fF ((b %2^(c+1):X):Z) ((2^c:X):Z)=0/\g=bp then 1 else fF ((b %2^(c+1):X):Z) ((2^c:X):Z))=kx b (c+1) g:=by
  unfold kx fF;have t:2^(c+1)=2*2^c:=aa;generalize b %2^(c+1)=f at*;rw[t];generalize 2^c=d at*;rcases r4 f d with l|l|l
  ·rw[au (aa:(f:Z)<(d:Z)),ax ac,au aa]
  ·grind
  rw[ax (aa:¬((f:Z)<(d:Z))),au (aa:(d:Z)<(f:Z)),ax ac,ax aa,au aa]
 refine ai (y:=(kx b (c+1) g,aS ((b/2^(c+1):X):Z),aS ((b %2^(c+1):X):Z),())) ?_ ?_
 ·grind
 refine ai (tp (z:=((b %2^(c+1):X):Z)) (jH (by grind))) ?_;grind [aI,aK,jv]
theorem Ao {n:X}:(n≠0/\cT n=0)↔n %2=1:=by
 constructor
 ·rintro⟨b,c⟩;have:=sS (n:=n) (k:=1) aa;omega
 intro a;refine⟨aa,?_⟩;have:=sS (n:=n) (k:=1) aa;omega
theorem Xn (m:aN b<=900000) (w:0<b) (G:-1000000<=a-d) (H:a-d<=1000000):BV (o2 j b a g,d,p,())=Y (aS (if j then-((if d<=a then b*2^(a-d).toNat else hS j b (d-a).toNat g p:X):Z) else((if d<=a then b*2^(a-d).toNat else hS j b (d-a).toNat g p:X):Z)),()):=by
 unfold BV;have l:∀e:X,aN e<=2000000->(bB (α:=lz) (
  bif j then
 (sq (aS (e:Z),())).bind λ(E,_)=>
 Y (((bq,([],())):eW),E,()) else
 Y ((bq,([],())),aS (e:Z),())) λ(_,D,_)=>
 Y (D,()))=Y (aS (if j then-(e:Z) else(e:Z)),()):=λe J=>by
  cases j
  ·rfl
  refine ai (y:=((bq,([],())),aS (-(e:Z)),())) ?_ bn;have I:Fit (e:Z)\/True:=.inr trivial;have o:=hR (z:=(e:Z)) (by grind);refine ai (y:=(aS (-(e:Z)),())) ?_ bn;unfold sq;refine ai (yN (by have:=o.2.2;omega)) (ai (wm (mr _) (by have:=o.2.2;omega)) ?_);grind [oC,FA]
 by_cases i:d<=a
 ·rw[au i];obtain⟨c,f⟩:∃c:X,a-d=c:=⟨(a-d).toNat,aa⟩;rw[f,fC];refine ai (y:=((-1:Z),bp,(bq,([],())),aS ((b*2^c:X):Z),())) ?_ ?_
  ·show(bif br (d<=a) then _ else _)=_;rw[aK i];refine ai (y:=(aS ((b*2^c:X):Z),())) ?_ bn;show oY (aS (b:Z),ay (a-d),())=_;rw[cL aa aa,z8 (by grind [oo]) aa aa,f,fC,yj,xP]
  refine ai bn (ai bn ?_);exact l _ (eD yI aa)
 rw[ax i];obtain⟨c,f⟩:∃c:X,d-a=c:=⟨(d-a).toNat,aa⟩;rw[f,fC];refine ai (y:=(kx b c g,br (b %2^c=0)&&!g,(bq,([],())),aS ((b/2^c:X):Z),())) ?_ ?_
 ·show(bif br (d<=a) then _ else _)=_;rw[aI i];refine ai (y:=(aS ((b/2^c:X):Z),kx b c g,br (b %2^c=0)&&!g,())) ?_ bn;show yT (o2 j b a g,ay (d-a),())=_;rw[cL aa aa,f];exact TV m w aa aa
 have A:aN (b/2^c)<=900000:=eD (l3 (yt _ _)) m;refine ai (y:=(!(br (b %2^c=0)&&!g)&&vE j (kx b c g) (br (b/2^c %2=1)) p,(bq,([],())),aS ((b/2^c:X):Z),())) ?_ ?_
 ·dsimp only;cases r:(br (b %2^c=0)&&!g) with
  |true=>rfl
  |false=>
   show(bif p==1 then Y (j,_,_,()) else _)=_;unfold vE;rw[gD,gD,gD];by_cases s:p=1
   ·grind
   rw[aI s,ax s];by_cases k:p=2
   ·rw[aK k,au k];rfl
   rw[aI k,ax k];by_cases t:p=3
   ·grind
   rw[aI t,ax t];generalize kx b c g=h;show(bif br (h>0)==bq then _ else _)=_;by_cases v:h>0
   ·grind
   rw[aI v];show(bif (h==0)==bp then _ else _)=_;rw[gD];by_cases u:h=0
   ·rw[aK u];refine ai (tp (z:=((b/2^c:X):Z)) (jH (by grind [oo]))) ?_;dsimp only;have K:=Ao (n:=b/2^c);rw[fX];by_cases F:b/2^c=0
    ·rw[aK (show gB ((b/2^c:X):Z)=0 by rw[F];rfl),aI (aa:¬(b/2^c %2=1))];rfl
    have B:gB ((b/2^c:X):Z)≠0:=(by unfold gB;omega);rw[aI B];refine ai (Ri (z:=((b/2^c:X):Z)) (jH (by grind [oo])) aa) ?_;rw[oo];simp_all [aI,aK,gD,cT]
   grind
 dsimp only;refine ai (y:=((bq,([],())),aS ((hS j b c g p:X):Z),())) ?_ ?_
 ·unfold hS;by_cases r:b %2^c=0/\g=bq
  ·simp_all
  have C:(br (b %2^c=0)&&!g)=bq:=(by grind);rw[ax r,C];by_cases q:vE j (kx b c g) (br (b/2^c %2=1)) p=bp
  ·rw[au q,q];refine ai (DS (n:=1) ab ab) ?_;refine ai (KV (x:=((b/2^c:X):Z)) (y:=1) (by grind [oo]) ab) ?_;rfl
  simp_all
 refine l _ ?_;have:hS j b c g p<=b/2^c+1:=(by unfold hS;grind);exact eD (l3 this) (eD (Gp A (ab:aN 1<=900000)) aa)
def A1 (b:0<=a) (c:a<9223372036854775808):uq (a,g,())=Y (jd g a,()):=by
 unfold uq jd;cases g
 ·rfl
 dsimp only;rw[m1 63 b (by exact c) ab aa ab ab,akK];rfl
theorem Px:B0 (g,a,())=Y (p9 g a,()):=by
 unfold B0 p9;dsimp only;refine ai (y:=if(a=3\/(a=1/\g=bq)\/(a=2/\g=bp)) then .inr (jd g 9218868437227405311,()) else .inl ()) ?_ ?_
 ·refine ai (y:=(br (a=3\/(a=1/\g=bq)\/(a=2/\g=bp)),())) ?_ ?_
  ·rw[gD,gD,gD];by_cases e:a=3
   ·grind
   by_cases c:a=1
   ·grind
   by_cases d:a=2
   ·simp_all
   grind
  dsimp only;by_cases b:(a=3\/(a=1/\g=bq)\/(a=2/\g=bp))
  ·rw[aK b,au b];exact ai (A1 ab ab) rfl
  grind
 by_cases b:(a=3\/(a=1/\g=bq)\/(a=2/\g=bp))
 ·rw[au b,au b]
 rw[ax b,ax b];exact ai (A1 ab ab) rfl
theorem Fx {neg s4:bA} {e oj:Z} (d:0<b):(if db b e<=e then b*2^(e-db b e).toNat else hS neg b (db b e-e).toNat s4 oj)<=9007199254740992:=by
 have f:=gj.1 (bc (aN b));have h:=pP d;have i:e+aN b-53<=db b e:=(by grind [db]);split
 ·rename_i c;have a:b*2^(e-db b e).toNat<2^aN b*2^(e-db b e).toNat:=Nat.mul_lt_mul_of_pos_right f (jy _);rw[<-i7] at a;have g:2^(aN b+(e-db b e).toNat)<=2^53:=tQ ab aa;omega
 rename_i c;have a:b/2^(db b e-e).toNat<2^53:=(by rw[akx (jy _),<-i7];grind [Nat.lt_of_lt_of_le,Nat.pow_le_pow_right]);grind [hS]
theorem Qg (s:aN b<=800000) (k:0<b) (q:-500000<=a) (r:a<=500000):yX (o2 g b a j,d,())=Y (lK g b a j d,()):=by
 have t:=pP k;have u:=Fx (neg:=g) (s4:=j) (oj:=d) (e:=a) k;have o:lK g b a j d=kG g (if db b a<=a then b*2^(a-db b a).toNat else hS g b (db b a-a).toNat j d) (db b a) d:=(by grind [lK]);have p:db b a=if(-1074:Z)>a+aN b-1-52 then-1074 else a+aN b-1-52:=by grind [db]
 have w:-1074<=db b a:=aa;have A:db b a<=1400000:=aa;unfold yX;refine ai (WK aa aa aa) ?_;dsimp only;rw[cL aa aa,<-p,o];refine ai (Xn aa k ?_ ?_) ?_
 ·omega
 ·omega
 generalize(if db b a<=a then b*2^(a-db b a).toNat else hS g b (db b a-a).toNat j d)=c at*;generalize db b a=f at*;have v:aN c<=54:=gj.2 aa;have n:(if g then-(c:Z) else(c:Z)).natAbs=c:=aa;refine ai (Bw (jH (by grind))) ?_;rw[n];refine ai (V3 (z:=(c:Z)) aa aa) ?_;dsimp only;rw[fq (x:=(c:Z)) aa aa,gD];show bB _ _=Y (kG g c f d,());unfold kG;by_cases l:c=9007199254740992
 ·rw[aK (aa:(c:Z)=9007199254740992),ax (aa:¬c<4503599627370496),au l];refine ai (y:=(f+1,4503599627370496,())) ?_ ?_
  ·grind [cr]
  dsimp only;rw[aI (aa:¬((4503599627370496:Z)<4503599627370496)),cL aa aa,bP,cQ];split
  ·rename_i i;exact ai Px bn
  rename_i i;rw[fq aa aa,nQ ab ab,show(2:Z)^(52:Z).toNat=4503599627370496 from rfl,aC];have aq:aL (4503599627370496-4503599627370496)=0:=(by grind [fq]);have h:(f+1+1075)*4503599627370496 %18446744073709551616=(f+1+1075)*4503599627370496:=aa;rw[aq,h,Ay,m1 52 ab ab aa ab aa aa,ajk];exact ai (A1 aa aa) rfl
 rw[aI (aa:¬(c:Z)=9007199254740992)];refine ai (y:=(f,(c:Z),())) rfl ?_;dsimp only;rw[cQ];by_cases m:c<4503599627370496
 ·rw[au (aa:(c:Z)<4503599627370496),au m];exact ai (A1 aa aa) rfl
 rw[ax (aa:¬(c:Z)<4503599627370496),ax m,ax l,cL aa aa,cQ];split
 ·rename_i i;exact ai Px bn
 rename_i i;rw[fq (x:=f+1075) aa aa,nQ ab ab,show(2:Z)^(52:Z).toNat=4503599627370496 from rfl,bN,fq (x:=(c:Z)-4503599627370496) aa aa];have h:(f+1075)*4503599627370496 %18446744073709551616=(f+1075)*4503599627370496:=aa;rw[h,Ay,m1 52 aa aa aa aa aa aa];refine ai (A1 aa aa) ?_;dsimp only;congr 3;omega
def gr (c d:ahT) (e:Z):Z:=match c,d with
 |some a,Y b=>if b=0 then 9221120237041090560 else if a=0 then 0 else vo a b e
 |_,_=>9221120237041090560
def E7 (b:ahT) (c:Z):Z:=match b with
 |some a=>if a<0 then 9221120237041090560 else if a=0 then 0 else Jy a c
 |none=>9221120237041090560
def xI (a:Z):(aS (cG a)).1=br (a<0):=by show br (cG a<0)=_;rw[cx];exact An
theorem abN (h:fO a) (i:fO d) (z:a≠0) (A:d≠0) (j:Z):∃c e k,BT (az (Y a),az (Y d),56,())=Y (o2 (br (a<0)!=br (d<0)) c e k,())/\0<c/\aN c<=800000/\-500000<=e/\e<=500000/\lK (br (a<0)!=br (d<0)) c e k j=vo a d j:=by
 have q:=kj h;have r:=kj i;have s:=kK h;have t:=kK i;have n:0<(cG a).natAbs:=(by grind [jr]);have o:0<(cG d).natAbs:=(by grind [jr]);obtain⟨b,p⟩:∃b,b=m2 (cG a).natAbs (cG d).natAbs:=⟨_,bn⟩;have v:b<=131131:=(by grind [m2]);have g:58<=aN ((cG a).natAbs*2^b/(cG d).natAbs):=EV n o (by grind [m2]);have u:aN ((cG a).natAbs*2^b)<=262203:=(by grind [yI]);refine⟨(cG a).natAbs*2^b/(cG d).natAbs,eI a-b-eI d,br ((cG a).natAbs*2^b %(cG d).natAbs≠0),?_,?_,?_,aa,aa,?_⟩
 ·unfold BT;rw[hz,hz];refine ai (wq (jH aa)) (ai (wq (jH aa)) (ai (Bw (jH aa)) ?_));dsimp only;have aq:(if ay (ay (ay (56+3)+(aN (cG d).natAbs:Z))-(aN (cG a).natAbs:Z))>0 then ay (ay (ay (56+3)+(aN (cG d).natAbs:Z))-(aN (cG a).natAbs:Z)) else 0)=(b:Z):=by
   grind [cL,m2,aN,cG]
  rw[aq];refine ai (z8 (m:=((cG a).natAbs:Z)) (by grind) aa aa) (ai (Bw (jH aa)) ?_);have l:((cG a).natAbs:Z)*2^(b:Z).toNat=(((cG a).natAbs*2^b:X):Z):=(by grind);rw[l];refine ai (T3 (x:=(((cG a).natAbs*2^b:X):Z)) (y:=((cG d).natAbs:Z)) (by grind) (by grind) aa aa) ?_;rw[<-akR,<-am4];have w:aN ((cG a).natAbs*2^b %(cG d).natAbs)<=900000:=cz (l3 (alW _ _)) aa;refine ai (tp (jH (by grind))) ?_;dsimp only;rw[cL (x:=eI a-(b:Z)) aa aa,cL aa aa,xI,xI];grind [jv,aK,aI,gB,cG,decide,o2]
 ·rcases n0 ((cG a).natAbs*2^b/(cG d).natAbs) with f|f
  ·rw[f] at g;exact absurd g ab
  omega
 ·exact eD (l3 (yt _ _)) aa
 unfold vo rE;rw[<-p];congr 1;unfold eI;omega
theorem Ve (e:cP k) (d:cP i):so (az k,az i,a,())=Y (gr k i a,()):=by
 unfold so;refine ai (Hg e) (ai (Hg d) ?_);dsimp only;rw[q6,q6];cases k with
 |none=>cases i<;>rfl
 |some c=>
  cases i with
  |none=>rfl
  |some b=>
   by_cases f:b=0
   ·subst f;refine ai (y:=.inr (9221120237041090560,())) ?_ bn;refine ai (y:=(bp,az (Y c),az (Y 0),())) ?_ bn;refine ai (o1 d) ?_;rfl
   by_cases g:c=0
   ·subst g;refine ai (y:=.inr (0,())) ?_ ?_
    ·refine ai (y:=(bq,az (Y 0),az (Y b),())) ?_ ?_
     ·refine ai (o1 d) ?_;dsimp only;rw[show xY (Y b)=gB b from rfl,jv,aI f]
     refine ai (o1 e) ?_;rfl
    simp_all [ax,gr]
   obtain⟨h,j,r,l,m,n,o,p,q⟩:=abN (e c bn) (d b bn) g f a;refine ai (y:=.inl (az (Y c),az (Y b),())) ?_ ?_
   ·refine ai (y:=(bq,az (Y c),az (Y b),())) ?_ ?_
    ·refine ai (o1 d) ?_;dsimp only;rw[show xY (Y b)=gB b from rfl,jv,aI f]
    refine ai (o1 e) ?_;dsimp only;rw[show xY (Y c)=gB c from rfl,jv,aI g];rfl
   simp_all [ai,Qg,ax,gr]
theorem acz:qZ (aS 0,())=Y (0,()):=by
 unfold qZ;refine ai (tk (l:=[]) aQ.nil (λf b=>by cases b) ab) ?_;refine bQ.1 (ae.aM (P:=λd=>d=.inl ()) ?_ ?_)
 ·refine ae.steps 0 (λc a=>a=((0:Z),())) rfl (λc a e=>by omega) ?_;grind [bu]
 grind [bu]
theorem Qb {n:X} (c:aN n<=900000):∃a,qZ (aS (n:Z),())=Y (a,())/\((a=0/\n≠0)↔n %2=1):=by
 by_cases b:n=0
 ·grind [acz]
 refine⟨(cT n:Z),?_,?_⟩
 ·grind [oo,Qo]
 grind [Ao]
theorem adV:Db (g,a,j,d,())=Y (vE g a j d,()):=by unfold Db vE;grind
theorem abT (q:aN b<=800000) (C:e<=1000000):C7 (j,aS (b:Z),(e:Z),g,a,())=Y (aS ((hS j b e g a:X):Z),()):=by
 unfold C7;have f:∀d:X,(b:Z)/2^d=((b/2^d:X):Z):=λd=>(by rw[<-xP,<-akR]);have o:∀d:X,br (((b:Z).natAbs:Z) %2^d≠0)=br (b %2^d≠0):=λd=>(by grind);have E:∀d,aN (b/2^d)<=800000:=λd=>cz (l3 (alV _ _)) q;refine ai (Ju (m:=(b:Z)) (n:=e) (by grind) aa) ?_;rw[f];refine ai (P4 (z:=(b:Z)) (n:=e) (by grind) aa) ?_;rw[o];dsimp only;by_cases v:b %2^e=0/\g=bq
 ·simp_all [au,aI,ai,hS,aS]
 refine ai (y:=.inl ((bq,([],())),aS ((b/2^e:X):Z),())) ?_ ?_
 ·grind
 dsimp only;refine ai (y:=(kx b e g,(bq,([],())),aS ((b/2^e:X):Z),())) ?_ ?_
 ·rw[cQ];split
  ·rename_i p;obtain⟨c,rfl⟩:∃c,e=c+1:=⟨e-1,aa⟩;have l:ay (((c+1:X):Z)-1)=(c:Z):=(by grind [cL]);rw[l];refine ai (Ju (m:=(b:Z)) (n:=c) (by grind) aa) ?_;rw[f];obtain⟨k,h,t⟩:=Qb (n:=b/2^c) (by grind);have r:=IA b c 1;rw[Nat.pow_one] at r;have B:=aju b (jy c);have D:2^(c+1)=2*2^c:=aa;refine ai (y:=(br (b/2^c %2=1),(bq,([],())),aS ((b/2^(c+1):X):Z),())) ?_ ?_
   ·refine ai h ?_;dsimp only;rw[gD];by_cases w:k=0
    ·rw[aK w];refine ai (lL (z:=((b/2^c:X):Z)) (by grind)) ?_;grind [jv,aK,aI]
    grind
   dsimp only;unfold kx;by_cases s:b/2^c %2=1
   ·rw[aK s];have u:b %2^(c+1)=2^c+b %2^c:=(by grind);rw[u,ax aa];cases g
    ·show(bB _ _)=_;refine ai (P4 (z:=(b:Z)) (n:=c) (by grind) aa) ?_;grind
    grind
   grind
  rename_i p;obtain rfl:e=0:=aa;simp_all [au,Nat.pow_zero,Nat.mod_one,kx]
 dsimp only;obtain⟨k,h,t⟩:=Qb (n:=b/2^e) (by grind);refine ai (y:=(br (b/2^e %2=1),(bq,([],())),aS ((b/2^e:X):Z),())) ?_ ?_
 ·refine ai (lL (z:=((b/2^e:X):Z)) (by grind)) ?_;dsimp only;have A:(gB ((b/2^e:X):Z)!=0)=br (b/2^e≠0):=by
   grind [aI,aK,jv]
  grind
 dsimp only;refine ai (y:=((bq,([],())),aS ((hS j b e g a:X):Z),())) ?_ bn;refine ai adV ?_;dsimp only;unfold hS;rw[ck v];by_cases i:vE j (kx b e g) (br (b/2^e %2=1)) a=bp
 ·rw[au i,i];refine ai (Jx (n:=1) ab ab) ?_;refine ai (Jn (x:=((b/2^e:X):Z)) (y:=1) (by grind) ab) ?_;rfl
 grind
def AU (b:0<=a) (c:a<9223372036854775808):q1 (g,a,())=Y (jd g a,()):=by
 unfold q1 jd;cases g
 ·rfl
 dsimp only;rw[m1 63 b (by exact c) ab aa ab ab,akK];rfl
theorem Qh:zt (g,a,())=Y (p9 g a,()):=by
 unfold zt p9;dsimp only;refine ai (y:=if(a=3\/(a=1/\g=bq)\/(a=2/\g=bp)) then .inr (jd g 9218868437227405311,()) else .inl ()) ?_ ?_
 ·refine ai (y:=(br (a=3\/(a=1/\g=bq)\/(a=2/\g=bp)),())) ?_ ?_
  ·rw[gD,gD,gD];by_cases e:a=3
   ·grind
   by_cases c:a=1
   ·grind
   by_cases d:a=2
   ·simp_all
   grind
  dsimp only;by_cases b:(a=3\/(a=1/\g=bq)\/(a=2/\g=bp))
  ·rw[aK b,au b];exact ai (AU ab ab) rfl
  grind
 by_cases b:(a=3\/(a=1/\g=bq)\/(a=2/\g=bp))
 ·rw[au b,au b]
 rw[ax b,ax b];exact ai (AU ab ab) rfl
theorem adU {neg s4:bA} {e oj:Z} (c:0<b) (j:-1074<db b e):4503599627370496<=(if db b e<=e then b*2^(e-db b e).toNat else hS neg b (db b e-e).toNat s4 oj):=by
 obtain⟨f,h⟩:=ua c;have i:=pP c;have k:db b e=e+aN b-53:=(by grind [db]);have g:(2:X)^52=4503599627370496:=ab;split
 ·rename_i d;have a:2^(aN b-1)*2^(e-db b e).toNat<=b*2^(e-db b e).toNat:=h5 _ f;rw[<-i7] at a;grind
 rename_i d;have a:2^52<=b/2^(db b e-e).toNat:=(by rw[alL (jy _),<-i7];grind);grind [hS]
theorem Ql (t:aN b<=800000) (l:0<b) (C:-500000<=a) (D:a<=500000) (H:j=bp->54<=aN b):zu (g,aS (b:Z),a,j,d,())=Y (lK g b a j d,()):=by
 have E:=pP l;have F:=Fx (neg:=g) (s4:=j) (oj:=d) (e:=a) l;have q:=adU (neg:=g) (s4:=j) (oj:=d) (e:=a) l;have r:lK g b a j d=kG g (if db b a<=a then b*2^(a-db b a).toNat else hS g b (db b a-a).toNat j d) (db b a) d:=(by grind [lK]);have s:db b a=if(-1074:Z)>a+aN b-1-52 then-1074 else a+aN b-1-52:=by grind [db]
 have I:-1074<=db b a:=aa;have J:db b a<=1400000:=aa;have w:-1000000<=db b a-a:=aa;have A:db b a-a<=1000000:=aa;unfold zu;refine ai (AK (z:=(b:Z)) (by grind)) ?_;rw[oo];dsimp only;rw[cL (x:=a+(aN b:Z)) aa aa,cL (x:=a+(aN b:Z)-1) aa aa,cL (x:=a+(aN b:Z)-1-52) aa aa,<-s,r,cQ];split
 ·rename_i u;have K:972<=db b a:=aa;have q:=q aa;refine ai Qh ?_;clear s r w A;generalize(if db b a<=a then b*2^(a-db b a).toNat else hS g b (db b a-a).toNat j d)=f at*;unfold kG;grind
 rename_i u;refine ai (y:=(aS ((if db b a<=a then b*2^(a-db b a).toNat else hS g b (db b a-a).toNat j d:X):Z),())) ?_ ?_
 ·rw[cQ];split
  ·rename_i i;obtain⟨h,m⟩:∃h:X,db b a-a=h:=⟨(db b a-a).toNat,aa⟩;rw[cL (x:=db b a-a) aa aa,m,aiA];refine ai (abT t aa) ?_;dsimp only;by_cases B:db b a<=a
   ·have v:h=0:=aa;have G:j=bq:=by
     grind
    rw[au B,v];unfold hS;grind
   grind
  rename_i i;obtain⟨h,m⟩:∃h:X,a-db b a=h:=⟨(a-db b a).toNat,aa⟩;rw[cL (x:=a-db b a) aa aa,au aa,m,fC];refine ai (JA (z:=(b:Z)) (n:=h) (by grind) aa) ?_;grind
 generalize(if db b a<=a then b*2^(a-db b a).toNat else hS g b (db b a-a).toNat j d)=f at*;generalize db b a=c at*;dsimp only;refine ai (ach (z:=(f:Z)) aa aa) ?_;dsimp only;rw[gD];unfold kG;by_cases o:f=9007199254740992
 ·rw[aK (aa:(f:Z)=9007199254740992),ax (aa:¬f<4503599627370496),au o];refine ai (y:=(c+1,4503599627370496,())) ?_ ?_
  ·grind [cr]
  dsimp only;rw[cL (x:=c+1+53) aa aa,aK (aa:(4503599627370496:Z)>=4503599627370496)];by_cases i:c+1+1075>=2047
  ·rw[au i];refine ai (y:=.inr (p9 g d,())) ?_ bn;refine ai (y:=(bp,())) ?_ (ai Qh bn);grind
  rw[ax i];refine ai (y:=.inr (jd g ((c+1+1075)*4503599627370496),())) ?_ bn;refine ai (y:=(bq,())) ?_ ?_
  ·grind
  dsimp only;rw[cL (x:=c+1+1075) aa aa,fq (x:=c+1+1075) aa aa,nQ ab ab,show(2:Z)^(52:Z).toNat=4503599627370496 from rfl];have aq:aL (ay (4503599627370496-4503599627370496))=0:=(by grind [cL,fq]);have k:(c+1+1075)*4503599627370496 %18446744073709551616=(c+1+1075)*4503599627370496:=aa;rw[aq,k];show((q1 (g,fN bC ((c+1+1075)*4503599627370496) 0,())).bind _)=_;rw[Ay,m1 52 ab ab aa ab aa aa,ajk];exact ai (AU aa aa) rfl
 rw[aI (aa:¬(f:Z)=9007199254740992)];refine ai (y:=(c,(f:Z),())) rfl ?_;dsimp only;rw[cL (x:=c+53) aa aa];by_cases p:f<4503599627370496
 ·rw[aI (aa:¬((f:Z)>=4503599627370496)),au p,fq (x:=(f:Z)) aa aa];refine ai (y:=.inl ()) ?_ ?_
  ·grind
  exact ai (AU aa aa) rfl
 rw[aK (aa:((f:Z)>=4503599627370496)),ax p,ax o];by_cases i:c+1075>=2047
 ·omega
 rw[ax i];refine ai (y:=.inr (jd g ((c+1075)*4503599627370496+((f:Z)-4503599627370496)),())) ?_ bn;refine ai (y:=(bq,())) ?_ ?_
 ·grind
 dsimp only;rw[cL (x:=c+1075) aa aa,fq (x:=c+1075) aa aa,nQ ab ab,show(2:Z)^(52:Z).toNat=4503599627370496 from rfl];have aq:aL (ay ((f:Z)-4503599627370496))=(f:Z)-4503599627370496:=(by grind [cL,fq]);have k:(c+1075)*4503599627370496 %18446744073709551616=(c+1075)*4503599627370496:=aa;rw[aq,k];show((q1 (g,fN bC ((c+1075)*4503599627370496) ((f:Z)-4503599627370496),())).bind _)=_;rw[Ay,m1 52 aa aa aa aa aa aa];refine ai (AU aa aa) ?_;grind
theorem K2 (b:eK a):eJ bC a 52=Y (a/4503599627370496)/\ey bC (a/4503599627370496) 2047=bd a/\ey bC a 4503599627370495=fy a:=by
 have c:=b.1;have d:=b.2;refine⟨?_,?_,?_⟩
 ·grind [tn]
 ·rw[sa 11 aa aa 2047 ab ab];rfl
 rw[sa 52 aa aa 4503599627370495 ab ab];rfl
theorem AR (b:eK a):q0 (a,())=Y (!br (bd a=2047),()):=by simp_all [fX,ai,K2,q0]
theorem aci (b:eK a):Dd (a,())=Y (br (9223372036854775808<=a),()):=by grind [Lp,Dd]
theorem k9 (g:eK a):kU (a,())=Y (az (a6 a),()):=by
 obtain⟨i,j,k⟩:=K2 g;have t:=uR a;have s:=zN a;unfold kU a6;refine ai (AR g) ?_;dsimp only;by_cases f:bd a=2047
 ·rw[aK f,au f];rfl
 rw[aI f,ax f,show(!!bq)=bq from rfl,bP,i,aC,j,k,cL (x:=bd a) aa aa];obtain⟨c,d,l,n,o,p,q,h⟩:∃c d,(bif br (bd a>0) then some (fN bC (fy a) 4503599627370496,ay (bd a-1075),((false,((false,([],())),((0:Z),()))):fL),()) else some (fy a,(-1074:Z),(false,((false,([],())),((0:Z),()))),()))=some (c,d,(false,((false,([],())),((0:Z),()))),())/\0<=c/\c<9007199254740992/\-1074<=d/\d<=972/\(c=(if bd a=0 then fy a else fy a+4503599627370496)/\d=(if bd a=0 then-1074 else bd a-1075)):=by
  by_cases e:bd a=0
  ·refine⟨fy a,-1074,?_,aa,aa,aa,aa,by rw[au e],by rw[au e]⟩;grind
  refine⟨fy a+4503599627370496,bd a-1075,?_,aa,aa,aa,aa,by rw[ax e],by rw[ax e]⟩;rw[aK (aa:bd a>0),cL aa aa,m1 52 aa aa aa aa aa ab];rfl
 rw[<-h.1,<-h.2];refine ai l ?_;dsimp only;refine ai (aci g) ?_;rw[m4,bN];dsimp only;rw[pk c,lh (x:=c/4294967296) aa aa];have r:aN c.natAbs<=53:=gj.2 aa;refine ai (P5 (b:=(br (9223372036854775808<=a),[c %4294967296,c/4294967296],())) (m:=if a<9223372036854775808 then c else-c) (aQ.cons.2 ⟨⟨aa,aa⟩,aQ.cons.2 ⟨⟨aa,aa⟩,aQ.nil⟩⟩) ac ?_ ?_ aa aa) rfl
 ·unfold hg;simp only[ag];grind
 grind
def kJ (a:ahT) (b:Z):Z:=match a with
 |none=>9221120237041090560
 |some c=>qe c b
theorem Qk (d:cP i):zr (az i,a,())=Y (kJ i a,()):=by
 unfold zr;refine ai (ov d) ?_;dsimp only;rw[q6];cases i with
 |none=>rfl
 |some b=>
  have e:=d b bn;have h:=kj e;have j:=kK e;rw[hz];refine ai (lL aa) ?_;dsimp only;rw[jv];unfold kJ qe;by_cases c:b=0
  ·subst c;rw[aK (show cG 0=0 from rfl)];rfl
  rw[aI (jr c)];simp only;rw[ck c,bP];have g:0<(cG b).natAbs:=(by grind [jr]);refine ai (AJ aa) ?_;dsimp only;rw[xI];refine ai (Ql aa g aa aa (λf=>by cases f)) ?_;simp_all [ck,eI]
def xk (a:Z):cP (jn a):=Iy a 0
def ace (b:-9223372036854775808<=a) (c:a<=9223372036854775807):Dc (a,d,())=Y (kJ (jn a) d,()):=by unfold Dc;exact ai (Jt b c) (ai (Qk (xk a)) rfl)
theorem acu (g:0<b) (h:0<e) (d:aN b<=131072) (f:aN e<=131072):∃a,m2 b e<=a/\a<=140000/\C9 (aS (b:Z),aS (e:Z),60,())=Y (aS ((b*2^a/e:X):Z),-(a:Z),br (b*2^a %e≠0),()):=by obtain⟨a,i⟩:∃a,a=62+aN e-aN b:=⟨_,bn⟩;have j:a<=131134:=aa;have k:aN (b*2^a)<=262206:=(by grind [yI]);refine⟨a,by grind [m2],aa,?_⟩;unfold C9;refine ai (AK (z:=(e:Z)) (by grind)) (ai (AK (z:=(b:Z)) (by grind)) ?_);rw[oo,oo];dsimp only;have aq:(if 0>ay (ay (ay (60+2)+(aN e:Z))-(aN b:Z)) then 0 else ay (ay (ay (60+2)+(aN e:Z))-(aN b:Z)))=(a:Z):=(by grind [cL]);rw[aq];refine ai (JA (z:=(b:Z)) (n:=a) (by grind) aa) ?_;have c:(b:Z)*2^a=((b*2^a:X):Z):=(by grind);rw[c];refine ai (ab3 (x:=((b*2^a:X):Z)) (y:=(e:Z)) (by grind) (by grind) aa aa) ?_;rw[<-akR,<-am4];have l:aN (b*2^a %e)<=900000:=cz (l3 (alW _ _)) aa;refine ai (lL (by grind)) ?_;grind [jv,aK,aI,cL,alT]
theorem acg (f:cP k) (g:cP i):De (az k,az i,a,())=Y (gr k i a,()):=by
 unfold De;refine ai (ov f) (ai (ov g) ?_);dsimp only;rw[q6,q6];cases k with
 |none=>cases i<;>rfl
 |some c=>
  cases i with
  |none=>rfl
  |some b=>
   have p:=kj (f c bn);have q:=kj (g b bn);have w:=kK (f c bn);have A:=kK (g b bn);rw[hz,hz];by_cases h:b=0
   ·subst h;refine ai (y:=.inr (9221120237041090560,())) ?_ bn;exact ai (lL (z:=cG 0) ab) rfl
   refine ai (y:=.inl ((bq,aS (cG c),eI c,()),(bq,aS (cG b),eI b,()),())) ?_ ?_
   ·refine ai (lL (z:=cG b) aa) ?_;grind [jv,aI,jr]
   dsimp only;refine ai (lL (z:=cG c) aa) ?_;dsimp only;rw[jv];unfold gr;simp only;rw[ck h];by_cases e:c=0
   ·subst e;rw[aK (show cG 0=0 from rfl)];rfl
   rw[aI (jr e),ck e,bP];have l:0<(cG c).natAbs:=(by grind [jr]);have m:0<(cG b).natAbs:=(by grind [jr]);refine ai (AJ aa) (ai (AJ aa) ?_);obtain⟨d,u,B,v⟩:=acu l m p q;refine ai v ?_;dsimp only;rw[cL (x:=eI c-eI b) aa aa,cL aa aa,xI,xI];have n:58<=aN ((cG c).natAbs*2^d/(cG b).natAbs):=EV l m (by grind [m2]);have s:0<(cG c).natAbs*2^d/(cG b).natAbs:=by
    rcases n0 ((cG c).natAbs*2^d/(cG b).natAbs) with j|j
    ·rw[j] at n;exact absurd n ab
    omega
   have t:aN ((cG c).natAbs*2^d/(cG b).natAbs)<=800000:=cz (l3 (alV _ _)) (by grind [yI]);refine ai (Ql t s aa aa (λ_=>by omega)) ?_;have r:=aby (oj:=a) e h u;dsimp only;rw[<-r];unfold rE;have o:eI c-eI b+-(d:Z)=e7 c-e7 b-d:=(by unfold eI;omega);rw[o];rfl
def o8 (a:Z) (b:X):X:=((a %18446744073709551616) %(b:Z)).toNat
theorem Ai (a:Z) {n:X} (b:0<n):o8 a n<n:=by simp_all [pp,nV,o8]
theorem xG (a:Z) {n:X} (c:0<n) (e:n<=9223372036854775807):su (a,(n:Z),())=Y ((o8 a n:Z),()):=by unfold su;have d:=Ai a c;have b:(a %18446744073709551616) %(n:Z)=(o8 a n:Z):=(by unfold o8;have:=aj7 (a %18446744073709551616) (aa:(n:Z)≠0);omega);dsimp only;rw[rP a,fq (x:=(n:Z)) aa aa,(EW (x:=a %18446744073709551616) (y:=(n:Z)) ⟨aa,aa⟩ aa).2,b];grind [A6]
theorem aeI (a b:Z):eK (tA bC a b):=by grind [A8,tA,eK]
theorem Kj (e:ahZ) (i:e.length<=9223372036854775807) (h:Z):ae (uB (e,h,())) (λb=>eK b.1):=by
 have f:∀a b:Z,0<=b->∃c,eJ bC a b=Y c:=λa b d=>(by unfold eJ;simp_all);unfold uB;dsimp only;refine ae.aM (P:=λ_=>True) ?_ ?_
 ·rw[cQ];refine ae.ite (λd=>?_) λd=>bu.2 trivial;simp_all [ae.bs,xG,e3,bu,trivial,Ai,bh]
 rintro⟨a,_⟩ _;dsimp only;obtain⟨c,g⟩:=f a 31 ab;refine ae.bs g ?_;obtain⟨k,j⟩:=f (aL (tA bC a c*13787848793156543929)) 29 ab;grind [ae.bs,bu,aeI]
theorem QA (b:0<=a) (c:a<9223372036854775808):eK (jd g a):=by grind [jd,eK]
theorem aaS (b:bA) (a:Z):eK (p9 b a):=by grind [QA,p9]
theorem aaW (c:b<=9007199254740992) (e:-1074<=a):eK (kG g b a d):=by grind [aaS,QA,kG]
theorem P6 (c:0<b):eK (lK j b a g d):=by have f:=Fx (neg:=j) (s4:=g) (oj:=d) (e:=a) c;grind [aaW,lK,kG,db,hS]
def IE:eK 9221120237041090560:=⟨ab,ab⟩
theorem E6 (a:ahT) (c:Z):eK (kJ a c):=by
 unfold kJ;cases a with
 |none=>exact IE
 |some d=>
  simp only;unfold qe;by_cases b:d=0
  ·rw[au b];exact⟨ab,ab⟩
  simp_all [ax,P6,jr]
theorem AI (j:Z):eK (gr i k j):=by
 unfold gr;cases i with
 |none=>exact IE
 |some a=>
  cases k with
  |none=>exact IE
  |some b=>
   simp only;by_cases c:b=0
   ·rw[au c];exact⟨ab,ab⟩
   by_cases f:a=0
   ·rw[ax c,au f];exact⟨ab,ab⟩
   rw[ax c,ax f];unfold vo rE;have g:0<(cG a).natAbs:=(by grind [jr]);have h:0<(cG b).natAbs:=(by grind [jr]);have e:58<=aN ((cG a).natAbs*2^m2 (cG a).natAbs (cG b).natAbs/(cG b).natAbs):=EV g h (by grind [m2]);refine P6 ?_;rcases n0 ((cG a).natAbs*2^m2 (cG a).natAbs (cG b).natAbs/(cG b).natAbs) with d|d
   ·rw[d] at e;exact absurd e ab
   omega
theorem Ps (a b:Z):eK (fN bC a b):=by grind [A8,fN,eK]
structure gz (rows c3:X) (st mV qn:ahZ):Prop where
 len:st.length=c3+1
 first:st.getD 0 0=0
 mono:∀j,j<c3->st.getD j 0<=st.getD (j+1) 0
 last:st.getD c3 0=(mV.length:Z)
 val:qn.length=mV.length
 rng:∀j k:X,j<c3->st.getD j 0<=(k:Z)->(k:Z)<st.getD (j+1) 0->0<=mV.getD k 0/\mV.getD k 0<(rows:Z)
 asc:∀j k:X,j<c3->st.getD j 0<(k:Z)->(k:Z)<st.getD (j+1) 0->mV.getD (k-1) 0<mV.getD k 0
theorem ho {i:X} (a:i<c.length):ao c (i:Z)=Y (c.getD i 0):=by rw[e3 a,kc a]
theorem ac7 (o:c.length<=1000000):CL (c,())=Y (open Classical in decide (∀a,a+1<c.length->c.getD a 0<=c.getD (a+1) 0),()):=by
 classical
 unfold CL;dsimp only;refine bQ.1 (ae.aM (P:=λj=>match j with|.inl _=>(∀a,a+1<c.length->c.getD a 0<=c.getD (a+1) 0)|.inr k=>k=(bq,())/\¬(∀a,a+1<c.length->c.getD a 0<=c.getD (a+1) 0)) ?_ ?_)
 ·refine aik (λe=>∃b:X,(e.1=(b:Z)\/(e.1=-1/\b=0))/\b<=c.length/\(b<c.length\/c.length=0)/\(∀a,b<=a->a+1<c.length->c.getD a 0<=c.getD (a+1) 0)) (λe=>e.1.toNat) ⟨c.length-1,?_,aa,aa,λa f h=>by omega⟩ ?_
  ·grind [cL,bh]
  rintro⟨l,_⟩ ⟨b,f,h,m,n⟩;dsimp only at f|-;rw[cQ];refine ae.ite (λg=>?_) λg=>?_
  ·obtain rfl:l=(b:Z):=aa;obtain⟨d,rfl⟩:∃d,b=d+1:=⟨b-1,aa⟩;have aq:ay (((d+1:X):Z)-1)=(d:Z):=(by grind [cL]);rw[aq];refine ae.bs (ho aa) (ae.bs (ho aa) ?_);refine ae.bs (y:=(br (c.getD (d+1) 0<c.getD d 0),())) (by simp_all [bne_self_eq_false,bN,um,sn]) ?_;dsimp only;rw[cQ];refine ae.ite (λi=>?_) λi=>?_
   ·grind [bu]
   grind [bu,cl]
  grind [bu]
 grind [ah3,bu,aiy]
def km (e:Z) (d b:ahZ) (c:X):Prop:=∀a:X,d.getD c 0<=(a:Z)->(a:Z)<d.getD (c+1) 0->(if(a:Z)=d.getD c 0 then-1 else b.getD (a-1) 0)<b.getD a 0/\b.getD a 0<e
theorem km.pos (h:km a c f b) (i:0<=c.getD b 0):∀d:X,c.getD b 0<=(d:Z)->(d:Z)<c.getD (b+1) 0->0<=f.getD d 0:=by
 intro d
 induction d with
 |zero=>
  intro e g;have:=(h 0 e g).1;omega
 |succ d k=>
  intro e g;have j:=(h (d+1) e g).1;grind
theorem km.rng (h:0<=c.getD b 0):km a c f b↔(∀k:X,c.getD b 0<=(k:Z)->(k:Z)<c.getD (b+1) 0->0<=f.getD k 0/\f.getD k 0<a)/\(∀k:X,c.getD b 0<(k:Z)->(k:Z)<c.getD (b+1) 0->f.getD (k-1) 0<f.getD k 0):=by
 constructor
 ·intro g;refine⟨λk d e=>⟨g.pos h k d e,(g k d e).2⟩,λk d e=>?_⟩;have:=(g k aa e).1;omega
 rintro⟨d,e⟩ k i j;refine⟨?_,(d k i j).2⟩;split
 ·grind
 grind
theorem acY {l:ahZ} {lo hi t:X} (a:hi<=l.length) (b:lo+t<hi):((l.take hi).drop lo).length=hi-lo/\((l.take hi).drop lo)[t]?=Y (l.getD (lo+t) 0):=by grind
theorem acZ {l:ahZ} {lo:X} (a:b<=l.length):((l.take b).drop lo).length=b-lo:=by grind
theorem gz.iff:gz e b c f n↔c.length=b+1/\c.getD 0 0=0/\(∀a,a<b->c.getD a 0<=c.getD (a+1) 0)/\c.getD b 0=(f.length:Z)/\n.length=f.length/\∀a,a<b->km (e:Z) c f a:=by
 have o:(∀a,a<b->c.getD a 0<=c.getD (a+1) 0)->c.getD 0 0=0->∀a,a<=b->0<=c.getD a 0:=λr q a=>by
  induction a with
  |zero=>omega
  |succ a s=>grind
 constructor
 ·rintro⟨k,g,h,l,m,j,p⟩;exact⟨k,g,h,l,m,λa i=>(km.rng (o h g a aa)).2 ⟨λd=>j a d i,λd=>p a d i⟩⟩
 rintro⟨k,g,h,l,m,j⟩;exact⟨k,g,h,l,m,λa d i=>((km.rng (o h g a aa)).1 (j a i)).1 d,λa d i=>((km.rng (o h g a aa)).1 (j a i)).2 d⟩
section
open Go.Proofs
def A3:bm (String×DataW bt):=[("math/bits.deBruijn32tab",Lib.tabData .u8 pQ)]
def adA (b:Os) (a:ahQ):laidMetH cp A3 ((World.doorLaid cp 400 b).forCall (λ_ _=>0) ⟨#[],a,[]⟩).memory:=
 laidMetH_of_parts3 (fuel:=8) (laidMet_of_run' 8 (by kernel_rfl) (by kernel_rfl)) (by kernel_rfl) (by kernel_rfl)
def adz {b:bD} (c:laidMetH cp A3 b):lm E (λr=>r<b.heap.size) b:=by
 rw[MakeChecks.laidMetH_plain _ _ _ (by kernel_rfl)] at c;have f:cp.globalNamed "math/bits.deBruijn32tab"=Y 0:=(by kernel_rfl);have j:=Lib.tabIs_of_head (g:=0) (t:=301) (e:=5) (n:=32) f (by kernel_rfl) (by kernel_rfl) (by kernel_rfl) (by kernel_rfl) (by kernel_rfl) c;intro q h;have h:q∈[(⟨0,301,.u8,pQ⟩:tW)]:=h;obtain rfl:=gd.1 h;have s:0<b.heap.size:=by
  have d:=j.cell f 0 ab;unfold ai9 at d;split at d
  ·rename_i x w y v;exact(rR.1 v).1
  cases d
 refine⟨bn,_,_,bn,bc _,(λc=>by cases c),.inr ⟨0,0,bn,s,λa p i=>?_⟩⟩;obtain⟨l,i⟩:=hF.1 i;refine⟨[.int .u8 p],bn,λo z m=>?_,bn,bn⟩;have k:=j.cell f a l;have u:(pQ.getD a 0:Z)=p:=(by rw[kc l];exact i);rw[u] at k;cases o with
 |zero=>
  obtain rfl:=gC m;have:(⟨0,0+a*aiq (.int .u8)+0,bo⟩:Addr)=⟨0,a,bo⟩:=(by show(⟨0,0+a*1+0,bo⟩:Addr)=_;congr 1;omega);rw[this];exact k
 |succ o=>cases m
end
section
theorem TI (a0:e<=200) (an:b<=200) (H:c.length<=10000) (Q:f.length<=1000000) (a4:n.length<=1000000):CC (((e:Z),(b:Z),f,c,n,()),())=Y (open Classical in decide (gz e b f c n),()):=by
 classical
 unfold CC;refine bQ.1 ?_;dsimp only;have O:aP (b:Z)=((b+1:X):Z):=bk aa;have am:∀(h:¬gz e b f c n),(bq,())=(br (gz e b f c n),()):=λh=>(by rw[aiy h]);refine ae.aM (P:=λk=>match k with
  |.inl _=>f.length=b+1/\f.getD 0 0=0/\(∀a,a<b->f.getD a 0<=f.getD (a+1) 0)/\f.getD b 0=(c.length:Z)/\n.length=c.length
  |.inr o=>o=(bq,())/\¬gz e b f c n) ?_ ?_
 ·rw[O,fX];by_cases A:f.length=b+1
  ·rw[aK (show al f=((b+1:X):Z) by grind)];refine ae.bs (y:=f.getD 0 0) (ho (i:=0) aa) ?_;rw[fX];by_cases q:f.getD 0 0=0
   ·rw[aK q];refine ae.bs (ac7 Q) ?_;dsimp only;by_cases r:∀p,p+1<f.length->f.getD p 0<=f.getD (p+1) 0
    ·rw[ah3 r];refine ae.bs (y:=f.getD b 0) (ho aa) ?_;rw[fX];by_cases s:f.getD b 0=(c.length:Z)
     ·rw[aK (show f.getD b 0=al c from s),fX];by_cases B:c.length=n.length
      ·grind [bu,aK,bh]
      rw[aI (show¬al c=al n by grind)];exact bu.2 ⟨bn,λh=>B h.val.symm⟩
     rw[aI (show¬f.getD b 0=al c from s)];exact bu.2 ⟨bn,λh=>s h.last⟩
    rw[aiy r];exact bu.2 ⟨bn,λh=>r λp H=>h.mono p aa⟩
   rw[aI q];exact bu.2 ⟨bn,λh=>q h.first⟩
  rw[aI (show¬al f=((b+1:X):Z) by grind)];exact bu.2 ⟨bn,λh=>A h.len⟩
 rintro(k|k) w
 rotate_left
 ·grind [bu]
 obtain⟨A,q,r,s,B⟩:f.length=b+1/\f.getD 0 0=0/\(∀a,a<b->f.getD a 0<=f.getD (a+1) 0)/\f.getD b 0=(c.length:Z)/\n.length=c.length:=w;have F:∀a,a<=b->0<=f.getD a 0:=λa=>by
  induction a with
  |zero=>omega
  |succ a R=>grind
 have w:∀u a,a+u=b->f.getD a 0<=(c.length:Z):=λu=>by
  induction u with
  |zero=>grind
  |succ u R=>grind
 dsimp only;refine ae.aM (P:=λk=>match k with
  |.inl _=>(∀a,a<b->km (e:Z) f c a)
  |.inr o=>o=(bq,())/\¬(∀a,a<b->km (e:Z) f c a)) ?_ ?_
 ·refine ae.steps b (λp x=>x=((p:Z),())/\∀a,a<p->km (e:Z) f c a) ⟨bn,λa L=>by omega⟩ ?_ ?_
  ·rintro a _ L ⟨rfl,C⟩;dsimp only;rw[aY (aK (aa:(a:Z)<(b:Z))),bk aa];obtain⟨d,N⟩:=cB (F a aa);obtain⟨m,K⟩:=cB (F (a+1) aa);have E:m<=c.length:=(by have:=w (b-(a+1)) (a+1) aa;omega);have av:d<=m:=(by grind);refine ae.bs (y:=(d:Z)) (by rw[ho aa,N]) (ae.bs (y:=(m:Z)) (by rw[ho aa,K]) (ae.bs (y:=(d,m)) (by grind [vc,p4]) ?_));dsimp only;have ap:=acZ (l:=c) (lo:=d) E;refine ae.aM (P:=λk=>match k with
    |.inl _=>km (e:Z) f c a
    |.inr o=>o=.inr (.inr (bq,()))/\¬km (e:Z) f c a) ?_ ?_
   ·refine ae.steps (m-d) (λg x=>x=((if g=0 then-1 else c.getD (d+g-1) 0),(g:Z),())/\∀j:X,d<=j->j<d+g->(if(j:Z)=f.getD a 0 then-1 else c.getD (j-1) 0)<c.getD j 0/\c.getD j 0<(e:Z)) ⟨bn,λj C D=>by omega⟩ ?_ ?_
    ·rintro g _ a3 ⟨rfl,D⟩;have J:=(acY (l:=c) (lo:=d) (hi:=m) (t:=g) E aa).2;have M:(if g=0 then-1 else c.getD (d+g-1) 0)=(if((d+g:X):Z)=f.getD a 0 then-1 else c.getD (d+g-1) 0):=by
      omega
     dsimp only;rw[aY (aK (show(g:Z)<al ((c.take m).drop d) by grind)),M];refine ae.aM (P:=λk=>match k with
      |.inl o=>o=(c.getD (d+g) 0,())/\((if((d+g:X):Z)=f.getD a 0 then-1 else c.getD (d+g-1) 0)<c.getD (d+g) 0/\c.getD (d+g) 0<(e:Z))
      |.inr o=>o=.inr (.inr (.inr (.inr (bq,()))))/\¬((if((d+g:X):Z)=f.getD a 0 then-1 else c.getD (d+g-1) 0)<c.getD (d+g) 0/\c.getD (d+g) 0<(e:Z))) ?_ ?_
     ·refine ae.bs (y:=c.getD (d+g) 0) (gN J) ?_;generalize(if((d+g:X):Z)=f.getD a 0 then-1 else c.getD (d+g-1) 0)=V;generalize c.getD (d+g) 0=z;by_cases I:z<=V
      ·grind [bu,aK]
      rw[aI I];by_cases ad:z>=(e:Z)
      ·grind [bu,aK]
      grind [aI,bu]
     rintro(k|k) G
     ·obtain⟨rfl,v⟩:=G;refine bu.2 ⟨?_,?_⟩
      ·rw[bk aa,ax aa];rfl
      intro j S T;rcases cO j (d+g) with U|U
      ·grind
      obtain rfl:j=d+g:=aa;exact v
     obtain⟨rfl,v⟩:=G;refine bu.2 ⟨bn,λh=>v ?_⟩;exact h (d+g) aa aa
    rintro _ ⟨rfl,D⟩;dsimp only;rw[a1 (aI (show¬(((m-d:X):Z)<al ((c.take m).drop d)) by grind))];refine bu.2 ?_;intro j S T;simp_all
   grind [bu,cl]
  rintro _ ⟨rfl,C⟩;simp_all [bu,a1,aI]
 grind [bu,ah3,gz.iff]
def nU (b:ahZ):Prop:=∀a,a<b.length->bd (b.getD a 0)≠2047
open Classical in
def gE (d b:X) (e c a:ahZ):Z:=if gz d b e c a then if nU a then 0 else 4 else 1
theorem KU.getD {a:ahZ} (e:∀d∈a,eK d) (c:X):eK (a.getD c 0):=by
 rcases cO c a.length with b|b
 ·grind
 rw[o4 b];exact⟨ab,ab⟩
theorem XK (j:∀m∈c,eK m) (o:c.length<=1000000):CF (c,(),())=Y (open Classical in decide (¬nU c),()):=by
 classical
 unfold CF;refine bQ.1 ?_;refine ae.aM (P:=λd=>∃e,d=(e,())/\(0<=e↔¬nU c)) ?_ ?_
 ·unfold GS;dsimp only;refine ae.aM (P:=λk=>match k with|.inl _=>nU c|.inr d=>0<=d.1/\¬nU c) ?_ ?_
  ·refine ae.steps c.length (λa l=>l=((a:Z),())/\∀b,b<a->bd (c.getD b 0)≠2047) ⟨bn,λb n=>by omega⟩ ?_ ?_
   ·rintro a _ h ⟨rfl,g⟩;dsimp only;rw[aY (aK (show(a:Z)<al c by grind))];refine ae.bs (ho h) ?_;unfold GQ;refine ae.bs (y:=(br (bd (c.getD a 0)=2047),())) (ai (z2 (KU.getD j a)) (by grind)) ?_;dsimp only;rw[cQ];refine ae.ite (λf=>?_) λf=>?_
    ·exact bu.2 ⟨aa,λi=>i a h f⟩
    grind [bu,bk,cl]
   rintro _ ⟨rfl,g⟩;dsimp only;rw[a1 (aI (show¬((c.length:Z)<al c) by grind))];exact bu.2 g
  grind [bu]
 rintro _ ⟨e,rfl,p⟩;refine bu.2 ?_;grind
theorem W1 (i:e<=200) (g:b<=200) (h:f.length<=10000) (j:n.length<=1000000) (d:c.length<=1000000) (k:∀l∈c,eK l):ss (((e:Z),(b:Z),n,f,c,()),())=Y (gE e b n f c,()):=by
 classical
 unfold ss gE;dsimp only;refine ai (y:=(bq,())) ?_ ?_
 ·unfold CE;grind
 dsimp only;rw[bP];refine ai (TI i g h j d) ?_;dsimp only;by_cases a:gz e b n f c
 ·rw[ah3 a,au a];refine ai (XK k d) ?_;grind
 grind
end
end Go.jf
end
