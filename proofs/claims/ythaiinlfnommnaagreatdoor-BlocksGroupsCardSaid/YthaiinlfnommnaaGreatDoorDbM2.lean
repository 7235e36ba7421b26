import Derived.Test.YthaiinlfnommnaaGreatDoorDbM1
import Derived.Test.YthaiinlfnommnaaGreatDoorProg
import Derived.Test.YthaiinlfnommnaaGreatDoorChecked
import Derived.WalkKit
import Derived.LaidEql
import Derived.Stop.Asserts
import Derived.RowKitTokens
namespace Go.Proofs.YthaiinlfnommnaaGreatDoor
open Go Go.Dn Go.Rl Go.Proofs
attribute [local irreducible] a9 vc
set_option maxRecDepth 20000
def Rq:List (Nat×List (Nat×List (Nat×Option Nat))):=[
 (4,[(9,[(3,none),(4,none),(6,none),(9,none)]),(10002,[(3,none)]),(10001,[(2,none)])]),
 (5,[(11,[(5,none),(6,none),(8,none),(10,none),(11,none),(12,none),(13,none)]),(12002,[(5,none),(11,none),(12,none)]),(12001,[(4,none)])]),
 (7,[(17,[(1,none),(2,none),(5,none),(6,none),(8,none),(10,none),(11,none),(12,none)]),(18004,[(1,none),(2,none),(5,none),(6,none),(8,none)]),(18001,[(4,none)]),(8,[(1,none),(2,none),(5,none),(6,none),(8,none)]),(9002,[(1,none),(2,none),(5,none),(6,none)]),(9001,[(4,none)])]),
 (8,[(18,[(1,none),(3,none),(4,none),(6,none),(7,none),(8,none),(9,none),(10,none),(11,none)]),(19006,[(1,none),(3,none),(4,none),(6,none),(7,none),(8,none),(9,none)]),(19001,[(2,none)]),(14,[(1,none),(3,none),(4,none),(6,none),(7,none),(8,none),(9,none)]),(15004,[(1,none),(3,none),(4,none),(6,none),(7,none)]),(15001,[(2,none)]),(9,[(1,none),(3,none),(4,none),(6,some 3),(7,none)]),(10002,[(1,none),(3,none),(6,none)]),(10001,[(2,none)])]),
 (9,[(23,[(3,none),(4,none),(6,none),(11,none)]),(24008,[(3,none),(4,none),(6,none)]),(24001,[(2,none)]),(16,[(3,none),(4,none),(6,none),(7,none),(8,none),(9,none),(10,none)]),(17006,[(3,none),(4,none),(6,none),(7,none),(8,none)]),(17001,[(2,none)]),(11,[(3,none),(4,none),(6,none),(7,none)]),(12004,[(3,none),(4,none),(6,none)]),(12001,[(2,none)]),(8,[(3,none),(4,none),(6,none)]),(9002,[(3,none)]),(9001,[(2,none)])]),
 (11,[(22,[(1,none),(8,none),(9,none),(10,none)]),(23008,[(1,none),(8,none),(9,none)]),(23001,[(4,none)]),(16,[(1,none),(8,none),(9,none)]),(17006,[]),(17001,[(4,none)]),(8,[(1,none),(2,none),(5,none),(6,none),(7,none)]),(9004,[(1,none),(2,none),(5,none),(6,none)]),(4,[(1,none),(2,none),(5,none)]),(5002,[(1,none)]),(5001,[(4,none)])]),
 (12,[(6,[(1,none),(7,some 41),(19,none),(20,none),(21,none)]),(7002,[(7,none)])]),
 (13,[(11,[(1,none),(4,none),(7,none),(8,none),(9,none),(10,none),(11,none)]),(12004,[(1,none),(4,none),(7,none),(8,none),(9,none),(10,none)]),(7,[(1,none),(4,none),(7,none),(8,some 41),(9,none)]),(8002,[(8,none)])]),
 (14,[(4,[(0,none),(1,none),(5,none)]),(5002,[]),(5001,[(4,none)])]),
 (15,[(15,[(7,none),(10,none),(11,none),(13,none),(49,none),(50,none),(51,none)]),(16004,[(7,none),(10,none),(11,none),(13,none)]),(11,[(7,none),(10,some 38),(11,none),(12,none)]),(12002,[(10,none)])]),
 (16,[(4,[(0,none),(1,none),(5,none)]),(5002,[]),(5001,[(4,none)])]),
 (19,[(3,[(0,none),(3,none),(5,none),(6,none)]),(4002,[(5,none)])]),
 (20,[(2,[(0,none),(1,none),(5,none)]),(3002,[]),(3001,[(4,none)])]),
 (24,[(3,[(3,some 3),(7,none),(8,none),(9,none)]),(4002,[(3,none)])]),
 (26,[(8,[(1,none),(3,none),(5,none)]),(9004,[(1,none),(3,none)]),(3,[(1,none),(3,none),(4,none)]),(4002,[(1,none),(3,none)]),(4001,[(2,none)])]),
 (27,[(2,[(0,none),(3,none)]),(3002,[]),(3001,[(2,none)])]),
 (28,[(3,[(1,none),(2,none),(4,none),(5,none),(17,none),(18,none),(19,none)]),(4002,[(4,none),(5,none)])]),
 (29,[(25,[(7,none),(14,none),(15,none),(18,none),(19,none)]),(26006,[(7,none),(14,none),(15,none),(18,none)]),(19,[(7,none),(14,some 38),(15,none),(16,none)]),(20004,[(14,none)]),(6,[(1,none),(7,none),(8,none)]),(7002,[(7,none)]),(7001,[(2,none),(3,none),(4,none)])]),
 (30,[(19,[(3,none),(4,none),(8,none),(9,none),(10,none)]),(20010,[(3,none),(4,none),(8,none),(9,none)]),(16,[(3,none),(4,none),(8,none),(9,none)]),(17008,[(3,none),(4,none),(8,none)]),(13,[(3,none),(4,none),(8,none)]),(14006,[(4,none)]),(8,[(1,none),(3,none),(4,none),(5,none),(6,none),(7,none)]),(9004,[(1,none),(3,none),(4,none),(5,none),(6,none)]),(4,[(1,none),(3,none),(4,some 59),(5,none)]),(5002,[(3,none),(4,none)])]),
 (31,[(2,[(0,none),(1,none),(6,none)]),(3002,[]),(3001,[(4,none),(5,none)])]),
 (32,[(5,[(2,none),(3,none),(4,none),(7,none),(8,none),(10,none)]),(6002,[(4,none),(7,none)])]),
 (33,[(3,[(1,none),(3,none),(5,none),(7,none),(9,none)]),(4002,[]),(4001,[(6,none)])]),
 (34,[(3,[(1,none),(2,none),(5,some 45),(6,none)]),(4002,[(5,none)])]),
 (35,[(4,[(0,none),(1,none),(5,none)]),(5002,[]),(5001,[(4,none)])]),
 (36,[(5,[(20,none),(21,none),(22,none)]),(6002,[]),(6001,[(2,none),(3,none)])]),
 (37,[(8,[(3,none),(45,none),(46,none)]),(9004,[(3,none)])]),
 (38,[(2,[(0,none),(3,none),(11,none),(12,none),(13,none)]),(3002,[]),(3001,[(4,none),(5,none)])]),
 (39,[(6,[(0,none),(1,none),(5,none),(11,none),(12,none),(25,none)]),(7004,[(5,none)]),(7003,[(0,none),(1,none),(11,none),(12,none)]),(2,[(0,none),(1,none),(11,none),(12,none)]),(3002,[]),(3001,[(4,none)])]),
 (40,[(3,[(0,none),(1,none),(5,some 3),(11,none),(12,none)]),(4002,[(5,none)])]),
 (41,[(5,[(2,none),(3,none),(4,none),(7,none),(35,none),(36,none),(37,none)]),(6002,[(4,none),(7,none)])]),
 (45,[(5,[(2,none),(3,none),(6,none)]),(6002,[]),(6001,[(4,none)])]),
 (48,[(9,[(0,none),(1,none),(5,none),(6,none)]),(10004,[(0,none),(1,none),(5,none)]),(10001,[(4,none)]),(4,[(0,none),(1,none),(5,none)]),(5002,[]),(5001,[(4,none)])]),
 (49,[(5,[(1,none),(6,none)]),(6002,[]),(6001,[(2,none),(3,none)])]),
 (52,[(9,[(0,none),(3,none),(4,none),(5,none)]),(10004,[(0,none),(3,none)]),(4,[(0,none),(3,none)]),(5002,[(0,none)]),(5001,[(2,none)])]),
 (54,[(2,[(0,none),(3,none)]),(3002,[]),(3001,[(2,none)])]),
 (55,[(3,[(1,none),(2,none),(5,none)]),(4002,[(1,none)])]),
 (60,[(3,[(1,none),(3,none),(5,none),(7,none),(9,none)]),(4002,[]),(4001,[(6,none)])]),
 (61,[(5,[(1,none),(4,none),(6,none)]),(6002,[]),(6001,[(2,none),(3,none)])]),
 (62,[(2,[(0,none),(1,none),(2,none),(7,none)]),(3002,[]),(3001,[(6,none)])]),
 (63,[(3,[(0,none),(1,none),(5,some 3),(6,none)]),(4002,[(5,none)])]),
 (64,[(2,[(1,none),(2,none),(3,none),(7,none)]),(3002,[]),(3001,[(6,none)])]),
 (66,[(10,[(9,none),(11,some 9),(12,none),(13,none)]),(11002,[(11,none)])]),
 (69,[(11,[(1,none),(38,none),(39,none),(40,none)]),(12004,[]),(12001,[(2,none),(3,none)]),(4,[(1,none),(16,none),(17,none),(18,none)]),(5002,[(1,none)]),(5001,[(2,none),(3,none)])]),
 (72,[(3,[(0,none),(5,none),(6,some 3)]),(4002,[(5,none)])]),
 (76,[(3,[(3,some 56),(6,none),(7,none),(8,none)]),(4002,[(3,none)])]),
 (77,[(8,[(2,none),(8,none),(32,none),(33,none),(34,none)]),(9003,[(2,none),(8,none)])]),
 (81,[(4,[(0,none),(1,none),(5,none)]),(5002,[]),(5001,[(4,none)])]),
 (85,[(4,[(2,none),(18,none),(19,none),(20,none)]),(5002,[]),(5001,[(4,none)])]),
 (87,[(4,[(2,none),(3,none),(6,some 96),(26,none),(27,none),(28,none)]),(5002,[(3,none),(6,none)])]),
 (89,[(11,[(1,none),(8,none)]),(12004,[]),(12001,[(2,none),(3,none)]),(5,[(1,none),(5,none)]),(6002,[(1,none)]),(6001,[(2,none),(3,none)])]),
 (90,[(2,[(0,none),(1,none),(2,none),(3,none),(8,none),(9,none)]),(3001,[])]),
 (93,[(4,[(1,none),(2,none),(5,none)]),(5002,[(1,none)])]),
 (94,[(5,[(1,none),(2,none),(5,none)]),(6002,[(1,none)])]),
 (95,[(2,[(0,none),(1,none),(7,none),(8,none)]),(3002,[]),(3001,[(4,none)])]),
 (97,[(2,[(0,none),(1,none),(7,none),(8,none)]),(3002,[]),(3001,[(4,none)])]),
 (98,[(1,[(0,none),(1,none),(2,none),(7,none),(8,none),(9,none)]),(2002,[]),(2001,[])]),
 (99,[(4,[(1,none),(2,none),(7,none),(8,some 3),(9,some 1000000009)]),(5002,[(8,none),(9,none)]),(5001,[(4,none),(5,none),(6,none)])]),
 (101,[(2,[(1,none),(2,none),(5,none)]),(3002,[]),(3001,[(4,none)])]),
 (102,[(11,[(1,none),(6,none)]),(12004,[]),(12001,[(2,none)]),(5,[(1,none),(4,none)]),(6002,[(1,none)]),(6001,[(2,none)])]),
 (103,[(2,[(0,none),(1,none),(5,none)]),(3002,[]),(3001,[(4,none)])]),
 (104,[(3,[(1,none),(3,some 1000000009),(4,none)]),(4002,[(3,none)])]),
 (105,[(6,[(1,none),(4,some 1000000009),(5,none)]),(7002,[(4,none)])]),
 (108,[(2,[(1,none),(3,none),(5,none),(6,none),(7,none)]),(3002,[(5,none),(6,none)])]),
 (110,[(11,[(6,none),(8,some 3),(36,none),(37,none),(38,none)]),(12004,[(8,none)]),(12001,[(4,none),(5,none)]),(4,[(3,none),(6,none)]),(5002,[(3,none),(6,none)]),(5001,[(4,none),(5,none)])]),
 (114,[(5,[(0,none),(1,none),(5,none),(12,none),(13,none),(14,none),(28,none),(29,none),(30,none)]),(6004,[(0,none),(1,none),(12,none),(13,none),(14,none)]),(6001,[]),(1,[(0,none),(1,none),(12,none),(13,none),(14,none)]),(2002,[]),(2001,[])]),
 (121,[(1,[(0,none),(6,none),(7,none),(8,none)]),(2002,[])]),
 (123,[(5,[(0,none),(1,none),(5,none),(6,none)]),(6002,[(0,none),(5,none)])]),
 (128,[(2,[(0,none),(1,none),(7,none),(8,none)]),(3002,[]),(3001,[(4,none)])]),
 (129,[(4,[(2,none),(3,none),(5,none)]),(5002,[]),(5001,[(4,none)])]),
 (130,[(4,[(0,none),(1,none),(5,none)]),(5002,[]),(5001,[(4,none)])]),
 (133,[(4,[(1,none),(2,none),(15,none),(16,none),(17,none)]),(5002,[]),(5001,[(6,none)])]),
 (135,[(4,[(1,none),(2,none),(15,none),(16,none),(17,none)]),(5002,[]),(5001,[(6,none)])]),
 (137,[(7,[(1,none),(2,none),(9,none),(10,none),(11,none),(21,none),(22,none),(23,none)]),(8004,[(1,none),(2,none),(9,none),(10,none),(11,none)]),(8001,[(4,none)]),(2,[(1,none),(2,none),(9,none),(10,none),(11,none)]),(3002,[(1,none)]),(3001,[(4,none)])]),
 (147,[(3,[(3,some 75),(6,none),(7,none),(8,none)]),(4002,[(3,none)])]),
 (148,[(9,[(0,none),(1,none),(5,none),(6,none),(7,none)]),(10004,[(0,none),(5,none)]),(4,[(0,none),(1,none),(5,none)]),(5002,[(0,none)]),(5001,[(4,none)])]),
 (150,[(10,[(1,none),(5,none)]),(11004,[]),(11001,[(2,none)]),(4,[(1,none),(3,none)]),(5002,[(1,none)]),(5001,[(2,none)])]),
 (151,[(23,[(0,none),(3,none),(9,none),(10,none),(14,none)]),(24008,[(0,none),(3,none),(9,none),(10,none)]),(24001,[(4,none),(5,none)]),(18,[(0,none),(3,none),(9,none),(10,none),(11,none),(12,none)]),(19006,[(0,none),(3,none),(9,none),(10,none),(11,none)]),(15,[(0,none),(3,none),(9,none),(10,none),(11,none)]),(16004,[(0,none),(3,none),(9,none),(10,none)]),(6,[(0,none),(3,none),(7,none),(8,none)]),(7002,[(0,none),(3,none),(7,none)])]),
 (152,[(4,[(0,none),(1,none),(2,none),(6,none),(7,none)]),(5004,[(0,none),(1,none),(2,none),(6,none)]),(1,[(0,none),(1,none),(2,none),(6,none)]),(2002,[])]),
 (153,[(8,[(0,none),(6,none),(7,none),(10,none)]),(9004,[]),(4,[(0,none),(6,none),(7,none),(8,none),(9,none)]),(5002,[(0,none),(6,none),(7,none),(8,none)])]),
 (154,[(5,[(0,none),(1,none),(6,none),(7,none),(8,none),(9,none)]),(6002,[])]),
 (156,[(2,[(0,none),(6,none),(7,none)]),(3002,[])]),
 (157,[(20,[(0,none),(1,none),(2,none),(7,none),(8,none),(10,none)]),(21008,[(0,none),(1,none),(2,none),(7,none),(8,none)]),(14,[(0,none),(1,none),(2,none),(7,none),(8,none),(9,none)]),(15006,[(0,none),(1,none),(2,none),(7,none),(8,none)]),(5,[(0,none),(1,none),(2,none),(7,none),(8,none)]),(6004,[(0,none),(1,none),(2,none),(7,none),(8,none)]),(3,[(0,none),(1,none),(2,none),(7,none),(8,none)]),(4002,[]),(4001,[(6,none)])]),
 (159,[(5,[(0,none),(1,none),(9,none),(10,none)]),(6006,[(0,none),(1,none),(9,none),(10,none)]),(4004,[(0,none),(1,none),(9,none),(10,none)]),(3,[(0,none),(1,none),(9,none),(10,none)]),(4002,[(9,none)])]),
 (160,[(15,[(0,none),(1,none),(10,none),(11,none)]),(16010,[(0,none),(1,none),(10,none),(11,none)]),(14008,[(0,none),(1,none),(10,none),(11,none)]),(13,[(0,none),(1,none),(10,none),(11,none)]),(14006,[(0,none),(1,none),(11,none)]),(5,[(0,none),(1,none),(10,none),(11,none)]),(6004,[(0,none),(1,none),(10,none),(11,none)]),(3,[(0,none),(1,none),(10,none),(11,none)]),(4002,[(0,none),(1,none),(10,none),(11,none)])]),
 (163,[(5,[(1,none),(2,none),(3,none),(7,none),(8,none)]),(6004,[(1,none),(2,none),(3,none),(7,none)]),(6001,[(6,none)]),(2,[(1,none),(2,none),(3,none),(7,none)]),(3002,[]),(3001,[(6,none)])]),
 (164,[(3,[(1,none),(5,some 9),(6,none)]),(4002,[(5,none)])]),
 (166,[(5,[(1,none),(3,some 1000000009),(4,none)]),(6002,[(3,none)])]),
 (168,[(5,[(1,none),(4,none)]),(6002,[]),(6001,[(2,none)])]),
 (171,[(3,[(1,none),(5,some 9),(6,none)]),(4002,[(5,none)])]),
 (173,[(2,[(0,none),(1,none),(5,none)]),(3002,[]),(3001,[(4,none)])]),
 (176,[(4,[(1,none),(31,none),(32,none),(33,none)]),(5002,[]),(5001,[(2,none)])]),
 (178,[(3,[(0,none),(5,none),(14,none),(15,none),(16,none)]),(4002,[(5,none)]),(4001,[(4,none)])]),
 (182,[(3,[(3,some 9),(6,none),(7,none),(8,none)]),(4002,[(3,none)])]),
 (183,[(12,[(6,none),(26,none),(27,none),(28,none)]),(13004,[(6,none)]),(3,[(0,none),(3,none),(9,none),(10,none),(11,none)]),(4002,[(0,none),(3,none)])]),
 (185,[(17,[(1,none),(2,none),(43,none),(44,none),(45,none)]),(18005,[]),(18001,[(6,none)]),(1,[(0,none),(1,none),(2,none)]),(2001,[(6,none)])]),
 (186,[(3,[(0,none),(1,none),(3,none),(4,none),(13,none),(14,none)]),(4002,[]),(4001,[])]),
 (187,[(3,[(1,none),(2,none),(3,none),(7,none),(11,none),(12,none),(13,none)]),(4002,[(7,none)]),(4001,[(6,none)])]),
 (188,[(4,[(1,none),(2,none),(5,none),(17,none),(18,none),(19,none)]),(5002,[(1,none),(2,none),(5,none)])]),
 (190,[(2,[(0,none),(1,none),(7,none),(8,none)]),(3002,[]),(3001,[(4,none)])]),
 (194,[(2,[(0,none),(1,none),(7,none),(8,none)]),(3002,[]),(3001,[(4,none)])]),
 (195,[(4,[(0,none),(1,none),(12,none),(13,none)]),(5002,[]),(5001,[(4,none)])]),
 (196,[(4,[(0,none),(1,none),(12,none),(13,none)]),(5002,[]),(5001,[(4,none)])]),
 (198,[(2,[(0,none),(3,none)]),(3002,[]),(3001,[(2,none)])]),
 (199,[(17,[(0,none),(3,none),(5,none),(10,none),(11,none),(44,none),(45,none),(46,none),(72,none),(73,none),(74,none)]),(18008,[(0,none),(3,none),(5,none),(11,none),(44,none),(45,none),(46,none)]),(18005,[(0,none),(3,none),(5,none),(44,none),(45,none),(46,none)]),(12,[(0,none),(3,none),(5,none),(10,none),(11,none),(44,none),(45,none),(46,none),(52,none),(53,none),(54,none)]),(13006,[(0,none),(3,none),(5,none),(10,none),(11,none),(44,none),(45,none),(46,none)]),(8,[(0,none),(3,none),(5,none),(44,none),(45,none),(46,none)]),(9004,[]),(9001,[]),(3,[(0,none),(1,none),(2,none),(3,none),(5,none),(6,some 96),(25,none),(26,none),(27,none)]),(4002,[(0,none),(1,none),(2,none),(3,none),(5,none),(6,none)])]),
 (200,[(7,[(1,none),(2,none),(7,none),(8,none),(10,none),(18,none),(19,none),(20,none),(26,none),(27,none),(28,none)]),(8004,[(1,none),(2,none),(7,none),(8,none),(10,none),(18,none),(19,none),(20,none)]),(8003,[(1,none),(2,none),(7,none),(8,none),(18,none),(19,none),(20,none)]),(4,[(1,none),(2,none),(7,none),(8,some 75),(18,none),(19,none),(20,none)]),(5002,[(8,none)])]),
 (203,[(5,[(0,none),(3,none),(4,none)]),(6002,[(3,none)])]),
 (204,[(5,[(0,none),(3,none),(4,none)]),(6002,[(3,none)])]),
 (205,[(9,[(0,none),(1,none),(2,none),(6,none),(7,none),(8,none)]),(10006,[(0,none),(1,none),(2,none),(6,none),(7,none)]),(7,[(0,none),(1,none),(2,none),(6,none)]),(8004,[]),(2,[(0,none),(1,none),(2,none),(6,none),(7,none),(8,none)]),(3002,[(0,none),(1,none),(2,none),(6,none),(7,none)])]),
 (206,[(2,[(0,none),(1,none),(2,none),(11,none),(12,none),(13,none)]),(3002,[(0,none),(1,none)]),(3001,[(6,none)])]),
 (209,[(5,[(1,none),(4,none)]),(6002,[]),(6001,[(2,none)])]),
 (211,[(4,[(0,none),(2,none),(3,none),(5,none),(9,none),(11,none),(12,none)]),(5002,[(11,none)])]),
 (213,[(3,[(0,none),(2,none),(3,none),(5,none),(9,none),(10,none)]),(4002,[(9,none)])]),
 (214,[(1,[(0,none),(2,none),(3,none),(8,none)]),(2002,[]),(2001,[])]),
 (221,[(6,[(5,some 9),(6,none),(7,none),(8,none),(9,none)]),(7002,[(5,none)])]),
 (222,[(4,[(0,none),(3,none)]),(5002,[]),(5001,[(2,none)])]),
 (223,[(8,[(1,none),(2,none),(5,none)]),(9002,[]),(9001,[(4,none)])]),
 (226,[(4,[(18,none)]),(5002,[]),(5001,[(2,none)])]),
 (227,[(7,[(0,none),(5,none),(40,none),(41,none),(42,none)]),(8003,[]),(8001,[(4,none)])]),
 (229,[(7,[(0,none),(57,none),(58,none),(59,none)]),(8004,[]),(8001,[]),(2,[(0,none),(1,none),(25,none),(26,none),(27,none)]),(3002,[(0,none),(1,none)]),(3001,[])]),
 (230,[(4,[(24,none),(25,none),(26,none)]),(5002,[]),(5001,[(2,none)])]),
 (238,[(8,[(2,none),(32,none),(33,none),(34,none)]),(9004,[]),(9001,[]),(3,[(2,none),(3,some 56),(14,none),(15,none),(16,none)]),(4002,[(2,none),(3,none)])]),
 (241,[(1,[(0,none),(6,none),(7,none),(8,none)]),(2002,[]),(2001,[])]),
 (242,[(2,[(0,none),(1,none),(7,none),(8,none)]),(3002,[]),(3001,[(4,none)])]),
 (244,[(4,[(0,none),(1,none),(2,none),(3,none),(8,none),(9,none)]),(5004,[(0,none),(1,none),(2,none),(3,none),(8,none)]),(1,[(0,none),(1,none),(2,none),(3,none),(8,none)]),(2002,[])]),
 (245,[(33,[(0,none),(1,none),(2,none),(3,none),(4,none),(18,none),(19,none),(20,none),(21,none),(22,none)]),(34010,[(0,none),(1,none),(2,none),(3,none),(4,none),(18,none),(19,none),(20,none)]),(21,[(0,none),(14,none),(17,none)]),(22008,[]),(15,[(0,none),(2,none),(4,none),(14,none),(15,none)]),(16006,[(0,none),(2,none),(14,none)]),(9,[(0,none),(10,none),(13,none)]),(10004,[]),(3,[(0,none),(1,none),(4,none),(10,none),(11,none)]),(4002,[(0,none),(1,none),(10,none)])]),
 (248,[(9,[(2,none),(3,none),(4,none),(10,none),(11,none)]),(10002,[(10,none)])]),
 (250,[(3,[(0,none),(2,none),(3,none),(5,none),(9,none),(11,none)]),(4002,[]),(4001,[(8,none)])]),
 (253,[(3,[(1,none),(3,some 1000000009),(4,none)]),(4002,[(3,none)])]),
 (254,[(3,[(1,none),(2,none),(5,some 1000000009),(6,none)]),(4002,[(5,none)])]),
 (258,[(2,[(0,none),(2,none),(4,none),(12,none),(13,none),(14,none)]),(3002,[(0,none),(2,none),(4,none)]),(3001,[(6,none)])]),
 (260,[(10,[(1,none),(49,none),(50,none),(51,none)]),(11003,[]),(11001,[(4,none)])]),
 (261,[(2,[(5,none),(6,none),(7,none)]),(3002,[]),(3001,[(2,none)])]),
 (264,[(3,[(3,some 9),(7,none),(8,none),(9,none)]),(4002,[(3,none)])]),
 (265,[(3,[(2,none),(11,none),(12,none),(13,none)]),(4002,[]),(4001,[])]),
 (266,[(2,[(0,none),(2,none),(4,none),(10,none),(11,none)]),(3002,[(0,none),(2,none),(4,none),(10,none)])]),
 (269,[(1,[(0,none),(1,none),(2,none),(3,none),(10,none)]),(2002,[])])
 ]
def XC(k:Nat):List (Nat×List (Nat×Option Nat))->List (Nat×Option Nat)
 |[]=>[]
 |(j,l)::r=>bif Nat.beq j k then l else XC k r
def Xz(f k:Nat):List (Nat×List (Nat×List (Nat×Option Nat)))->List (Nat×Option Nat)
 |[]=>[]
 |(g,l)::r=>bif Nat.beq g f then XC k l else Xz f k r
def live(f k:Nat):List (Nat×Option TypeId):=Xz f k Rq
structure Kp where
 tree:Addr
 stuck:Addr
 T1:TypeId
 T2:TypeId
 z1:Nat×Nat
 z2:Nat×Nat
 ft:Addr
 arity:Addr
 type:Addr
 T3:TypeId
 T4:TypeId
 T5:TypeId
 z3:Nat×Nat
 z4:Nat×Nat
 z5:Nat×Nat
 c3:Array Value
 c4:Array Value
 c5:Array Value
 t3:TypeId
 t4:TypeId
 t5:TypeId
 d1:ft≠arity
 d2:ft≠type
 d3:arity≠type
 n3: ∀g,g∈[1,0,3,4,2]->ft.block≠g
 n4: ∀g,g∈[1,0,3,4,2]->arity.block≠g
 n5: ∀g,g∈[1,0,3,4,2]->type.block≠g
def Ul(κ:Kp):Value:= .iface 306 (.pointer (some κ.tree))
def lT(κ:Kp):Value:= .iface 306 (.pointer (some κ.stuck))
def xf(κ:Kp)(b:Nat):Option Go.Obj:=
 bif Nat.beq b 1 then some (.cells #[.iface 306 (.pointer (some κ.tree))] κ.T1 κ.z1)
 else bif Nat.beq b 0 then some (.cells #[.iface 306 (.pointer (some κ.stuck))] κ.T2 κ.z2)
 else bif Nat.beq b 3 then some (.cells #[.iface 306 (.pointer (some κ.ft))] κ.T3 κ.z3)
 else bif Nat.beq b 4 then some (.cells #[.iface 306 (.pointer (some κ.arity))] κ.T4 κ.z4)
 else bif Nat.beq b 2 then some (.cells #[.iface 306 (.pointer (some κ.type))] κ.T5 κ.z5)
 else bif Nat.beq b κ.ft.block then some (.cells κ.c3 κ.t3 (0,0))
 else bif Nat.beq b κ.arity.block then some (.cells κ.c4 κ.t4 (0,0))
 else bif Nat.beq b κ.type.block then some (.cells κ.c5 κ.t5 (0,0))
 else none
def az(κ:Kp)(ok:Bool):Value:=bif ok then .nilIface else .iface 306 (.pointer (some κ.tree))
theorem l6(κ:Kp)(b:Bool):aC (az κ b)=true:=by cases b<;>rfl
theorem pR(κ:Kp)(b:Bool):bJ (az κ b)=b:=by cases b<;>rfl
theorem nV(κ:Kp)(b:Bool):a8 (az κ b)=true:=by cases b<;>rfl
noncomputable abbrev Pr(κ:Kp):Pg:={toProgram:=Tryz.prog,kept:=xf κ}
theorem wP:pk Tryz.prog:=Mv (by kernel_rfl)
def UC:List Nat:=[180,234,190,235,240,191,239,117,237,125,174,95,175,131,194,177,96,79,128,80,71,116,120,192,127,58,59]
def Wn:List Nat:=[123,187,163,248,211,212,249]
def Qy:List Nat:=[232,226,268,262,263,231,260,230,233,261,111,193,242,119,106,173,16,26,94,93,55,54,999999,999999,999999,255,256,222,169,257,223,168,224,225,170,102,130,103,100,220,176,109,209,150,210,267,250,251,213,179,115,44,73,57,97,999999,999999,999999,999999,92,53]
def Pj:List Nat:=[182,264,189,124,110,151]
def RG:List Nat:=[72]
noncomputable def E0(κ:Kp):Env:=((Env.none (Pr κ) live (fun f=>jM f UC) (fun f=>jM f Wn) (fun f=>jM f Qy)).jm (fun f=>jM f Pj)).iF (fun f=>jM f RG)
theorem e0(κ:Kp):aB (E0 κ):=((aB.none wP).jm _).iF _
theorem m0(κ:Kp):aj (E0 κ):=(aj.none.jm _).iF _
theorem y48(κ:Kp)(op:Int)(K:AV->List Dn.Obj->Prop):(a9 (E0 κ) 12 232 [.int op] [] K)=(
 aD (op==(5:Int)) (K (AV.bool true) []) (aD (op==(6:Int)) (K (AV.bool true) []) (K (AV.bool (op==(7:Int))) []))):=by kernel_rfl
def VT:List AV->Option (Bool×AV)
 |[.lit (.int .i64 op)]=>some (true, .bool (kK op))
 |_=>none
theorem p48(κ:Kp):c9 (E0 κ) 12 232 VT:=by
 intro args x h
 unfold VT at h
 split at h
 ·rename_i op
  simp only[aa4,ab0,true_and] at h
  subst h
  refine⟨_,rfl,rfl,?_⟩
  rw[y48]
  unfold kK
  by_cases h1:op=5<;>by_cases h2:op=6<;>by_cases h3:op=7<;>simp[ah,h1,h2,h3]<;>omega
 ·cases h
noncomputable def Nh(κ:Kp):Env:=(E0 κ).aH 232 VT
theorem e48(κ:Kp):aB (Nh κ):=(e0 κ).aH (m0 κ) (p48 κ)
theorem XY(κ:Kp):aj (Nh κ):=(m0 κ).aH
theorem x57(κ:Kp)(s:ByteArray)(p:Nat)(I:Nat->S->Prop)(n:Nat)(K:Exit->S->Prop):(vc (Nh κ) 12 226 none 0 (af (Pr κ).toProgram 226 4) (sp 55 [(18, .ptr 0 0 [] 0)] [.dw s p]) (bH (Nh κ) 226 4 0 I n K))=(
 letI z2:=∃(e0:Nat),e0<n/\I e0 (sp 55 [(18,AV.ptr 0 0 [] 0)] [Obj.dw s (p+Prod.snd (Utf8.decode s p))])
 letI z3:=Prod.fst (Utf8.decode s p)
 letI z5:=K Exit.ret (sp 55 [(2,AV.bool false)] [])
 letI z1:=aD (!(↑z3:Int)==(95:Int)) (aD ((↑p:Int)==(0:Int)) z5 (aD (decide ((↑z3:Int)<(48:Int))) z5 (aD (decide ((↑z3:Int)>(57:Int)))
  z5 z2))) z2
 letI z4:=aD (decide ((↑z3:Int)>=(65:Int))) (aD (decide ((↑z3:Int)<=(90:Int))) z2 z1) z1
 aD (Nat.blt p (ByteArray.size s)) (aD (decide ((↑z3:Int)>=(97:Int))) (aD (decide ((↑z3:Int)<=(122:Int))) z2 z4) z4) (K (Exit.exit 0) (sp 55 [] []))):=by kernel_rfl
abbrev P9(a:ByteArray×Nat):S:=sp 55 [(18, .ptr 0 0 [] 0)] [.dw a.1 a.2]
noncomputable def Be(a:ByteArray×Nat):Out (Exit×S):=
 .aD (nameAt a.1 a.2) (.one (.exit 0,sp 55 [] [])) (.one (.ret,sp 55 [(2, .bool false)] []))
theorem l57(κ:Kp):bh (Nh κ) 12 226 4 (aP 0 P9 (fun _=>True) Be):=by
 refine aL (fun a=>a.1.size - a.2) ?_
 rintro⟨s,p⟩ K - ho
 rw[show(Nh κ).P=Pr κ from rfl,x57]
 simp only[Be,Out.run,ah] at ho
 have hgo: ∀c:Int,c=(Utf8.decode s p).1->p<s.size->(letter c||(!(decide ((p:Int)=0)||decide (c<48)||decide ((57:Int)<c))))=true->
   ∃m,m<s.size - p/\fe P9 (fun _=>True) Be (fun a=>a.1.size - a.2) K m (sp 55 [(18, .ptr 0 0 [] 0)] [.dw s (p+(Utf8.decode s p).2)]):=by
  rintro c rfl hp hc
  have:=w7 s p
  refine⟨s.size - (p+(Utf8.decode s p).2),by omega,(s,p+(Utf8.decode s p).2),rfl,trivial,rfl,?_⟩
  rw[nameAt,dif_pos hp,hc,ac0] at ho
  simpa only[Be,Out.run,ah] using ho
 have hno: ∀c:Int,c=(Utf8.decode s p).1->p<s.size->(letter c||(!(decide ((p:Int)=0)||decide (c<48)||decide ((57:Int)<c))))=false->K Exit.ret (sp 55 [(2, .bool false)] []):=by
  rintro c rfl hp hc
  rw[nameAt,dif_pos hp,hc,Bool.false_and] at ho
  exact ho.2 rfl
 have hgo:=hgo _ rfl
 have hno:=hno _ rfl
 generalize ((Utf8.decode s p).1:Int)=c at*
 simp only[ah,Nat.blt_eq,aa1,aa3,beq_iff_eq,beq_eq_false_iff_ne,Bool.not_eq_true',ab3,bne_iff_ne]
 refine⟨fun hp=>?_,fun hp=>ho.1 ?_⟩
 ·have hgo:=hgo hp
  have hno:=hno hp
  simp only[letter,ab6,aa2,Bool.not_eq_true',Bool.or_eq_false_iff,Bool.and_eq_false_iff,ab3,aa1,aa3] at hgo hno
  repeat' (first|apply And.intro|intro _)
  all_goals first|(refine hgo ?_;omega)|(refine hno ?_;omega)
 ·have hp: ¬ p<s.size:=fun h=>by rw[show Nat.blt p s.size=true from by rw[Nat.blt_eq];exact h] at hp;cases hp
  rw[nameAt,dif_neg hp]
noncomputable def Iz(κ:Kp):Env:=(Nh κ).ak 226 4 (aP 0 P9 (fun _=>True) Be)
theorem VX(κ:Kp):aB (Iz κ):=(e48 κ).ak (XY κ) (l57 κ)
theorem RM(κ:Kp):aj (Iz κ):=(XY κ).ak aF
theorem y57(κ:Kp)(s:ByteArray)(K:AV->List Dn.Obj->Prop):(a9 (Iz κ) 12 226 [.lit (.string s)] [] K)=(
 letI z1:=K (AV.bool false) []
 letI z2:=Pg.toProgram (Env.P (Nh κ))
 aD (ByteArray.toList s==ByteArray.toList {data:= #[]}) z1 (aD (ByteArray.toList s==ByteArray.toList {data:= #[OfNat.ofNat 95]}) z1 (aD (decide ((↑(ByteArray.size s):Int)>(40:Int))) z1 (af z2 226 4=af z2 226 4/\∃(e0:ByteArray×Nat),sp 55 [(18,AV.ptr 0 0 [] 0)] [Obj.dw s 0]=sp 55 [(18,AV.ptr 0 0 [] 0)] [Obj.dw e0.1 e0.2]/\True/\aD (nameAt e0.1 e0.2) (K (AV.bool true) []) z1)))):=by kernel_rfl
def Wo:List AV->Option (Bool×AV)
 |[.lit (.string s)]=>some (true, .bool (isName s))
 |_=>none
theorem Zy(κ:Kp):c9 (Iz κ) 12 226 Wo:=by
 intro args x h
 unfold Wo at h
 split at h
 ·rename_i s
  simp only[aa4,ab0,true_and] at h
  subst h
  refine⟨_,rfl,rfl,?_⟩
  rw[y57]
  unfold isName lZ
  simp only[ah,aa1,aa3]
  refine⟨fun h1=>by rw[h1];rfl,fun h1=>⟨fun h2=>by rw[h1,h2];rfl,fun h2=>⟨fun h3=>?_,fun h3=>⟨trivial,⟨s,0⟩,rfl,trivial,fun h4=>?_,fun h4=>?_⟩⟩⟩⟩
  ·rw[h1,h2,aa7 (show(40:Int)<s.size from h3)];rfl
  ·rw[h1,h2,aa5 (show ¬ (40:Int)<s.size from h3),h4];rfl
  ·rw[h1,h2,aa5 (show ¬ (40:Int)<s.size from h3),h4];rfl
 ·cases h
noncomputable def Tv(κ:Kp):Env:=(Iz κ).aH 226 Wo
theorem e57(κ:Kp):aB (Tv κ):=(VX κ).aH (RM κ) (Zy κ)
theorem WW(κ:Kp):aj (Tv κ):=(RM κ).aH
theorem y64(κ:Kp)(op:Int)(s:ByteArray)(n:Int)(l:List AV)(K:AV->List Dn.Obj->Prop):(a9 (Tv κ) 12 268 [.agg [.int op, .lit (.string s), .int n, .ad 56 l]] [] K)=(
 letI z1:=K (AV.bool (n==(0:Int))) []
 letI z2:=K (AV.bool false) []
 letI z3:=ByteArray.toList s==ByteArray.toList {data:= #[]}
 aD (op==(1:Int)) (aD (isName s) z1 z2) (aD (op==(2:Int)) (K (AV.bool z3) []) (aD (op==(3:Int)) z1 (aD (op==(4:Int)) (aD z3 z1 z2) (aD (op==(0:Int)) (aD (ByteArray.toList s==ByteArray.toList {data:= #[]}) z1 z2) z2))))):=by kernel_rfl
def UQ:List AV->Option (Bool×AV)
 |[.agg [.lit (.int .i64 op), .lit (.string s), .lit (.int .i64 n), .ad 56 _]]=>some (true, .bool (bare op s n))
 |_=>none
theorem p64(κ:Kp):c9 (Tv κ) 12 268 UQ:=by
 intro args x h
 unfold UQ at h
 split at h
 ·rename_i op s n l
  simp only[aa4,ab0,true_and] at h
  subst h
  refine⟨_,rfl,rfl,?_⟩
  rw[y64]
  have e: ∀k:Int,(op==k)=decide (op=k):=fun k=>by by_cases h:op=k<;>simp[h]
  simp only[e]
  cases h5:isName s<;>cases h6:(ByteArray.toList s==ByteArray.toList (ByteArray.mk #[]))<;>
  by_cases h1:op=1<;>by_cases h2:op=2<;>by_cases h3:op=3<;>by_cases h4:op=4<;>by_cases h0:op=0<;>
  first|omega|(simp only[aD,bare,lZ,h5,h6,h1,h2,h3,h4,h0];rfl)|(simp[aD,bare,lZ,h5,h6,h1,h2,h3,h4,h0];done)|(simp[aD,bare,lZ,h5,h6,h1,h2,h3,h4,h0];rfl)|skip
 ·cases h
noncomputable def NH(κ:Kp):Env:=(Tv κ).aH 268 UQ
theorem T6(κ:Kp):aB (NH κ):=(e57 κ).aH (WW κ) (p64 κ)
theorem m64(κ:Kp):aj (NH κ):=(WW κ).aH
theorem QW(l:List AV):((l.length:Int)==0)=decide ((l.length:Int)=0):=by
 cases h:decide ((l.length:Int)=0) with
 |true=>rw[aa1] at h;rw[h];rfl
 |false=>rw[aa3] at h;exact beq_eq_false_iff_ne.2 h
theorem y60(κ:Kp)(op:Int)(s:ByteArray)(n:Int)(l:List AV)(K:AV->List Dn.Obj->Prop):(a9 (NH κ) 12 262 [.agg [.int op, .lit (.string s), .int n, .ad 56 l]] [] K)=(
 aD (op==(0:Int)) (aD (bare op s n) (K (AV.bool ((↑(l.length):Int)==(0:Int))) []) (K (AV.bool false) [])) (K (AV.bool false) [])):=by kernel_rfl
theorem y61(κ:Kp)(s:ByteArray)(l:List AV)(K:AV->List Dn.Obj->Prop):(a9 (NH κ) 12 263 [.agg [.lit (.string s), .ad 56 l]] [] K)=(
 aD (ByteArray.toList s==ByteArray.toList {data:= #[]}) (K (AV.bool ((↑(l.length):Int)==(0:Int))) []) (K (AV.bool false) [])):=by kernel_rfl
theorem Y8(κ:Kp)(b:Bool)(K:AV->List Dn.Obj->Prop):(a9 (NH κ) 12 231 [.bool b] [] K)=(
 aD b (K (AV.lit Value.nilIface) []) (K (AV.lit (Value.iface 306 (Value.pointer (some (Kp.tree κ))))) [])):=by kernel_rfl
def Vs:List AV->Option (Bool×AV)
 |[.agg [.lit (.int .i64 op), .lit (.string s), .lit (.int .i64 n), .ad 56 l]]=>some (true, .bool (decide (op=0)&&bare op s n&&decide ((l.length:Int)=0)))
 |_=>none
theorem p60(κ:Kp):c9 (NH κ) 12 262 Vs:=by
 intro args x h
 unfold Vs at h
 split at h
 ·rename_i op s n l
  simp only[aa4,ab0,true_and] at h
  subst h
  refine⟨_,rfl,rfl,?_⟩
  rw[y60]
  rw[QW]
  cases h5:bare op s n<;>by_cases h0:op=0<;>simp[ah,h5,h0]<;>first|rfl|skip
 ·cases h
def Wk:List AV->Option (Bool×AV)
 |[.agg [.lit (.string s), .ad 56 l]]=>some (true, .bool (lZ s (ByteArray.mk #[])&&decide ((l.length:Int)=0)))
 |_=>none
theorem p61(κ:Kp):c9 (NH κ) 12 263 Wk:=by
 intro args x h
 unfold Wk at h
 split at h
 ·rename_i s l
  simp only[aa4,ab0,true_and] at h
  subst h
  refine⟨_,rfl,rfl,?_⟩
  rw[y61]
  unfold lZ
  rw[QW]
  cases h5:(ByteArray.toList s==ByteArray.toList (ByteArray.mk #[]))<;>simp[ah]<;>first|rfl|skip
 ·cases h
def VE(κ:Kp):List AV->Option (Bool×AV)
 |[.lit (.bool b)]=>some (true, .lit (az κ b))
 |_=>none
theorem p47(κ:Kp):c9 (NH κ) 12 231 (VE κ):=by
 intro args x h
 unfold VE at h
 split at h
 ·rename_i b
  simp only[aa4,ab0,true_and] at h
  subst h
  refine⟨_,rfl,nV κ b,?_⟩
  rw[Y8]
  cases b<;>rfl
 ·cases h
noncomputable def Un(κ:Kp):Env:=(((NH κ).aH 262 Vs).aH 263 Wk).aH 231 (VE κ)
theorem XU(κ:Kp):aB (Un κ):=(((T6 κ).eZ (nM (T6 κ) (m64 κ) (p60 κ))).eZ (nM (T6 κ) (m64 κ) (p61 κ))).eZ (nM (T6 κ) (m64 κ) (p47 κ))
theorem WX(κ:Kp):aj (Un κ):=(((m64 κ).aH).aH).aH
def Pe(κ:Kp):List AV->Option (Bool×AV)
 |[.agg [.lit (.int .i64 op), .lit (.string s), .lit (.int .i64 n), .ad 56 l], .lit (.int .i64 h)]=>some (decide (0<=h)&&decide (h<=1000), .lit (az κ (au h.toNat (.mk op s n (aa l)))))
 |_=>none
def CZ:List AV->Nat
 |[_, .lit (.int .i64 h)]=>h.toNat
 |_=>0
noncomputable def ye(κ:Kp)(n:Nat):Env:=(Un κ).aH 260 (below (Pe κ) CZ n)
theorem x58(κ:Kp)(r:Nat)(h:Int)(l:List AV)(i:Int)(I:Nat->S->Prop)(n:Nat)(K:Exit->S->Prop):(vc (ye κ r) 12 260 none 0 (af (Pr κ).toProgram 260 10) (sp 72 [(1, .int h),(49, .ad 56 l),(50, .int l.length),(51, .int i)] []) (bH (ye κ r) 260 10 0 I n K))=(
 letI z2:=nth l i.toNat
 letI z3:=K Exit.ret (sp 72 [(4,AV.lit (Value.iface 306 (Value.pointer (some (Kp.tree κ)))))] [])
 letI z5:=i<(↑(l.length):Int)
 letI z6:=h - (1:Int)
 letI z4:=IntKind.wrap IntKind.i64 z6
 letI z1:=az κ (au (Int.toNat z4) (Tm.mk (toInt (ae z2 0)) (toStr (ae z2 1)) (toInt (ae z2 2)) (aa (ai (ae z2 3)))))
 aD (decide z5) (a7 (decide ((0:Int)<=i)&&decide z5) (aD (toInt (ae z2 0)==(3:Int)) z3 (aD (toInt (ae z2 0)==(4:Int)) z3 (a7 (decide ((0:Int)<=
 IntKind.wrap IntKind.i64 z6)&&decide (IntKind.wrap IntKind.i64 z6<=(1000:Int))&&Nat.blt (CZ [AV.agg [AV.int (toInt (ae z2 0)),AV.str (toStr (ae z2 1)),
 AV.int (toInt (ae z2 2)),AV.ad 56 (ai (ae z2 3))],AV.int z4]) r) (a7 (aC z1) (aD (!bJ z1) (K Exit.ret (sp 72 [(4,AV.lit z1)] [])) (∃(e0:Nat),e0<n/\I
 e0 (sp 72 [(1,AV.int h),(49,AV.ad 56 l),(50,AV.int (↑(l.length):Int)),(51,AV.int (IntKind.wrap IntKind.i64 (i+(1:Int))))] [])))))))) (K (Exit.exit
 1) (sp 72 [] []))):=by kernel_rfl
abbrev SC(a:Int×List AV×Int):S:=sp 72 [(1, .int a.1),(49, .ad 56 a.2.1),(50, .int a.2.1.length),(51, .int a.2.2)] []
def Lh(r:Nat)(a:Int×List AV×Int):Prop:=1<=a.1/\a.1<=1000/\a.1.toNat<=r/\a.2.1.length<=aR/\0<=a.2.2/\a.2.2<=a.2.1.length
noncomputable def EZ(κ:Kp)(a:Int×List AV×Int):Out (Exit×S):=
 .aD (mw (a.1 - 1).toNat (aa (a.2.1.drop a.2.2.toNat))) (.one (.exit 1,sp 72 [] [])) (.one (.ret,sp 72 [(4, .lit (az κ false))] []))
theorem l58(κ:Kp)(r:Nat):bh (ye κ r) 12 260 10 (aP 0 SC (Lh r) (EZ κ)):=by
 refine aL (fun a=>a.2.1.length - a.2.2.toNat) ?_
 rintro⟨h,l,i⟩ K ⟨h1,h2,h3,h4,h5,h6⟩ ho
 simp only at h1 h2 h3 h4 h5 h6
 rw[show(ye κ r).P=Pr κ from rfl,x58]
 simp only[EZ,Out.run,ah] at ho
 rw[aW (n:=h - 1) (by omega) (by omega)]
 simp only[aR] at h4
 simp only[l6,pR]
 simp only[←da]
 simp only[ah,an,aa1,aa3,aa2,beq_iff_eq,beq_eq_false_iff_ne,Bool.not_eq_true',ab3,CZ,Nat.blt_eq]
 refine⟨fun hi=>⟨⟨h5,hi⟩,?_⟩,fun hi=>ho.1 ?_⟩
 ·have e:=eu l i.toNat (by omega)
  rw[e] at ho
  have hop:(cM (nth l i.toNat)).op=toInt (ae (nth l i.toNat) 0):=by rw[da];rfl
  simp only[mw,List.all_cons,hop] at ho
  refine⟨fun ha=>ho.2 (by simp[ha]),fun ha=>⟨fun hb=>ho.2 (by simp[hb]),fun hb=>⟨⟨⟨by omega,by omega⟩,by omega⟩,trivial,fun hc=>?_,fun hc=>?_⟩⟩⟩
  ·rw[hc];exact ho.2 (by rw[hc];simp)
  ·rw[aW (n:=i+1) (by omega) (by omega)]
   refine⟨_,?_,(h,l,i+1),rfl,⟨h1,h2,h3,by simpa[aR] using h4,by simp only;omega,by simp only;omega⟩,rfl,?_⟩
   ·simp only;omega
   ·rw[hc] at ho
    simp only[EZ,Out.run,ah,mw]
    rw[show(i+1).toNat=i.toNat+1 by omega]
    simpa[ha,hb] using ho
 ·rw[aa9 (by omega)];rfl
noncomputable def HI(κ:Kp)(r:Nat):Env:=(ye κ r).ak 260 10 (aP 0 SC (Lh r) (EZ κ))
theorem y58(κ:Kp)(r:Nat)(op:Int)(s:ByteArray)(n:Int)(l:List AV)(h:Int)(K:AV->List Dn.Obj->Prop):(a9 (HI κ r) 12 260 [.agg [.int op, .lit (.string s), .int n, .ad 56 l], .int h] [] K)=(
 letI z1:=K (AV.lit (Value.iface 306 (Value.pointer (some (Kp.tree κ))))) []
 letI z2:=Pg.toProgram (Env.P (ye κ r))
 letI z3:=K (AV.lit Value.nilIface) []
 aD (h==(0:Int)) z1 (aD (op==(0:Int)) z1 (aD (!kK op) (aD (!bare op s n) z1 (aD (decide ((↑(l.length):Int)>(0:Int))) z1 z3)) (aD (!ByteArray.toList s==ByteArray.toList {data:= #[]}) z1 (aD (n != (0:Int)) z1 (aD ((↑(l.length):Int) != (2:Int)) z1 (af z2 260 10=af z2 260 10/\∃(e0:Int×List AV×Int),sp 72 [(1,AV.int h),(49,AV.ad 56 l),(50,AV.int (↑(l.length):Int)),(51,AV.int 0)] []=sp 72 [(1,AV.int e0.1),(49,AV.ad 56 e0.2.1),(50,AV.int (↑(e0.2.1.length):Int)),(51,AV.int e0.2.2)] []/\((1:Int)<=e0.1/\e0.1<=(1000:Int)/\e0.1.toNat<=r/\e0.2.1.length<=9223372036854775807/\(0:Int)<=e0.2.2/\e0.2.2<=(↑(e0.2.1.length):Int))/\aD (mw (Int.toNat (e0.1 - (1:Int))) (aa (List.drop (Int.toNat e0.2.2) e0.2.1))) z3 z1))))))):=by kernel_rfl
theorem WD(κ:Kp)(r:Nat)(hp:gZ (Pr κ) 260 (below (Pe κ) CZ r)):aB (HI κ r)/\aj (HI κ r)/\(HI κ r).P=Pr κ:=
 have h:aB (ye κ r):=(XU κ).eZ hp
 have hm:aj (ye κ r):=(WX κ).aH
 ⟨h.ak hm (l58 κ r),hm.ak aF,rfl⟩
theorem p58(κ:Kp)(r:Nat):c9 (HI κ r) 12 260 (fun xs=>bif Nat.beq (CZ xs) r then Pe κ xs else none):=by
 intro args x hh
 cases hb:Nat.beq (CZ args) r with
 |false=>simp only[hb] at hh;cases hh
 | true=>
  simp only[hb,aa8] at hh
  unfold Pe at hh
  split at hh
  ·rename_i op s n l h
   simp only[aa4,ab0,aa2,aa1] at hh
   obtain⟨⟨h1,h2⟩,rfl⟩:=hh
   have hr:h.toNat=r:=Nat.eq_of_beq_eq_true hb
   refine⟨_,rfl,nV κ _,?_⟩
   rw[y58]
   have ef:AV.lit (.iface 306 (.pointer (some κ.tree)))= .lit (az κ false):=rfl
   have et:AV.lit .nilIface= .lit (az κ true):=rfl
   rw[ef,et]
   by_cases h0:h=0
   ·subst h0;rfl
   ·obtain⟨m,hm⟩: ∃m,h.toNat=m+1:=⟨h.toNat - 1,by omega⟩
    rw[hm,re,eC]
    unfold lZ
    generalize (ByteArray.toList s==ByteArray.toList (ByteArray.mk #[]))=z
    simp only[ah,beq_iff_eq,beq_eq_false_iff_ne,Bool.not_eq_true',ab3,aa1,aa3,bne_iff_ne,bne_eq_false_iff_eq]
    refine⟨fun e=>absurd e h0,fun _=>⟨fun e=>by rw[aa7 e];rfl,fun e=>?_⟩⟩
    rw[aa5 e,aa6]
    refine⟨fun e2=>?_,fun e2=>?_⟩
    ·rw[e2,aa6]
     refine⟨fun e3=>by rw[e3];rfl,fun e3=>⟨fun e4=>?_,fun e4=>?_⟩⟩
     ·rw[aa5 (show ¬ l.length=0 by omega),Bool.and_false]
     ·rw[e3,aa7 (show l.length=0 by omega)];rfl
    ·rw[e2,aa8]
     refine⟨fun e3=>by rw[e3];rfl,fun e3=>⟨fun e4=>by rw[e3,aa5 e4];rfl,fun e4=>⟨fun e5=>?_,fun e5=>?_⟩⟩⟩
     ·rw[aa5 (show ¬ l.length=2 by omega)];simp
     ·refine⟨trivial,(h,l,0),rfl,⟨by simp only;omega,h2,by simp only;omega,by simp only;omega,by simp only;omega,by simp only;omega⟩,?_⟩
      rw[e3,aa7 e4,aa7 (show l.length=2 by omega)]
      simp only[show(h - 1).toNat=m by omega,ab8,ab1,ac0]
      exact⟨fun e=>by rw[e],fun e=>by rw[e]⟩
  ·cases hh
theorem q58(κ:Kp):gZ (Pr κ) 260 (Pe κ):=aB.tQ (Pe κ) CZ (HI κ) (WD κ) (p58 κ)
noncomputable def MS(κ:Kp):Env:=(Un κ).aH 260 (Pe κ)
theorem e58(κ:Kp):aB (MS κ):=(XU κ).eZ (q58 κ)
theorem X4(κ:Kp):aj (MS κ):=(WX κ).aH
theorem ZZ(κ:Kp)(l:List AV)(i:Int)(I:Nat->S->Prop)(n:Nat)(K:Exit->S->Prop):(vc (MS κ) 12 230 none 0 (af (Pr κ).toProgram 230 4) (sp 36 [(24, .ad 56 l),(25, .int l.length),(26, .int i)] []) (bH (MS κ) 230 4 0 I n K))=(
 letI z2:=nth l i.toNat
 letI z1:=az κ (au 20 (Tm.mk (toInt (ae z2 0)) (toStr (ae z2 1)) (toInt (ae z2 2)) (aa (ai (ae z2 3)))))
 letI z3:=i<(↑(l.length):Int)
 aD (decide z3) (a7 (decide ((0:Int)<=i)&&decide z3) (a7 (aC z1) (aD (!bJ z1) (K Exit.ret (sp 36 [(2,AV.lit z1)] [])) (∃(e0:Nat),e0<n/\I e0 (sp 36
 [(24,AV.ad 56 l),(25,AV.int (↑(l.length):Int)),(26,AV.int (IntKind.wrap IntKind.i64 (i+(1:Int))))] []))))) (K (Exit.exit 0) (sp 36 [] []))):=by kernel_rfl
abbrev SF(a:List AV×Int):S:=sp 36 [(24, .ad 56 a.1),(25, .int a.1.length),(26, .int a.2)] []
def Iv(a:List AV×Int):Prop:=a.1.length<=aR/\0<=a.2/\a.2<=a.1.length
noncomputable def Gv(κ:Kp)(a:List AV×Int):Out (Exit×S):=
 .aD ((aa (a.1.drop a.2.toNat)).all (au 20)) (.one (.exit 0,sp 36 [] [])) (.one (.ret,sp 36 [(2, .lit (az κ false))] []))
theorem l46(κ:Kp):bh (MS κ) 12 230 4 (aP 0 SF Iv (Gv κ)):=by
 refine aL (fun a=>a.1.length - a.2.toNat) ?_
 rintro⟨l,i⟩ K ⟨h4,h5,h6⟩ ho
 simp only at h4 h5 h6
 rw[show(MS κ).P=Pr κ from rfl,ZZ]
 simp only[Gv,Out.run,ah] at ho
 simp only[aR] at h4
 simp only[l6,pR,←da]
 simp only[ah,an,aa1,aa3,aa2,beq_iff_eq,beq_eq_false_iff_ne,Bool.not_eq_true',ab3]
 refine⟨fun hi=>⟨⟨h5,hi⟩,trivial,fun hc=>?_,fun hc=>?_⟩,fun hi=>ho.1 ?_⟩
 ·rw[hc]
  rw[eu l i.toNat (by omega),List.all_cons,hc,Bool.false_and] at ho
  exact ho.2 rfl
 ·rw[aW (n:=i+1) (by omega) (by omega)]
  refine⟨_,?_,(l,i+1),rfl,⟨by simpa[aR] using h4,by simp only;omega,by simp only;omega⟩,rfl,?_⟩
  ·simp only;omega
  ·rw[eu l i.toNat (by omega),List.all_cons,hc,ac0] at ho
   simp only[Gv,Out.run,ah,show(i+1).toNat=i.toNat+1 by omega]
   exact ho
 ·rw[aa9 (by omega)];rfl
noncomputable def Jj(κ:Kp):Env:=(MS κ).ak 230 4 (aP 0 SF Iv (Gv κ))
theorem Wp(κ:Kp):aB (Jj κ):=(e58 κ).ak (X4 κ) (l46 κ)
theorem TW(κ:Kp):aj (Jj κ):=(X4 κ).ak aF
theorem y46(κ:Kp)(s:ByteArray)(l:List AV)(K:AV->List Dn.Obj->Prop):(a9 (Jj κ) 12 230 [.agg [.lit (.string s), .ad 56 l]] [] K)=(
 letI z1:=K (AV.lit (Value.iface 306 (Value.pointer (some (Kp.tree κ))))) []
 letI z2:=Pg.toProgram (Env.P (MS κ))
 aD (!isName s) z1 (aD ((↑(l.length):Int)==(0:Int)) z1 (aD (decide ((↑(l.length):Int)>(8:Int))) z1 (af z2 230 4=af z2 230 4/\∃(e0:List AV×
 Int),sp 36 [(24,AV.ad 56 l),(25,AV.int (↑(l.length):Int)),(26,AV.int 0)] []=sp 36 [(24,AV.ad 56 e0.1),(25,AV.int (↑(e0.1.length):Int)),(26,
 AV.int e0.2)] []/\(e0.1.length<=9223372036854775807/\(0:Int)<=e0.2/\e0.2<=(↑(e0.1.length):Int))/\aD (List.all (aa (List.drop e0.2.toNat e0.1)) (au
 20)) (K (AV.lit Value.nilIface) []) z1)))):=by kernel_rfl
def VW(κ:Kp):List AV->Option (Bool×AV)
 |[.agg [.lit (.string s), .ad 56 l]]=>some (true, .lit (az κ (bf ⟨s,aa l⟩)))
 |_=>none
theorem p46(κ:Kp):c9 (Jj κ) 12 230 (VW κ):=by
 intro args x hh
 unfold VW at hh
 split at hh
 ·rename_i s l
  simp only[aa4,ab0,true_and] at hh
  subst hh
  refine⟨_,rfl,nV κ _,?_⟩
  rw[y46]
  have ef:AV.lit (.iface 306 (.pointer (some κ.tree)))= .lit (az κ false):=rfl
  have et:AV.lit .nilIface= .lit (az κ true):=rfl
  rw[ef,et]
  simp only[bf,eC]
  simp only[ah,beq_iff_eq,beq_eq_false_iff_ne,Bool.not_eq_true',ab3,aa1,aa3]
  refine⟨fun e=>by rw[e];rfl,fun e=>⟨fun e1=>by rw[aa7 (show l.length=0 by omega)];simp,fun e1=>⟨fun e2=>by rw[aa5 (show ¬ l.length<=8 by omega)];simp,fun e2=>⟨trivial,(l,0),rfl,⟨by simp only;omega,by simp only;omega,by simp only;omega⟩,?_⟩⟩⟩⟩
  rw[e,aa5 (show ¬ l.length=0 by omega),aa7 (show l.length<=8 by omega)]
  simp only[ab8,ab1,ac0,Bool.not_false]
  exact⟨fun e=>by rw[e],fun e=>by rw[e]⟩
 ·cases hh
noncomputable def Lx(κ:Kp):Env:=(Jj κ).aH 230 (VW κ)
theorem e46(κ:Kp):aB (Lx κ):=(Wp κ).aH (TW κ) (p46 κ)
theorem Uk(κ:Kp):aj (Lx κ):=(TW κ).aH
noncomputable def Dj(κ:Kp):Env:=(Lx κ).ak 261 2 (kz (Lx κ) 12 261 2 5)
theorem Wt(κ:Kp):aB (Dj κ):=(e46 κ).ak (Uk κ) (qY (Uk κ) 5)
theorem RZ(κ:Kp):aj (Dj κ):=(Uk κ).ak (kQ (Uk κ) 5)
theorem UK(κ:Kp)(u1 u2:Value)(K:AV->List Dn.Obj->Prop):(a9 (Dj κ) 12 261 [.ad 170 [.lit u1, .lit u2]] [] K)=(
 letI z1:=Pg.toProgram (Env.P (Lx κ))
 af z1 261 2=af z1 261 2/\a7 (aC u1) (aD (!bJ u1) (K (AV.lit u1) []) (a7 (aC u2) (aD (!bJ u2) (K (AV.lit u2) []) (K (AV.lit Value.nilIface) []))))):=by kernel_rfl
theorem VN(κ:Kp)(u1 u2 u3:Value)(K:AV->List Dn.Obj->Prop):(a9 (Dj κ) 12 261 [.ad 170 [.lit u1, .lit u2, .lit u3]] [] K)=(
 letI z1:=Pg.toProgram (Env.P (Lx κ))
 af z1 261 2=af z1 261 2/\a7 (aC u1) (aD (!bJ u1) (K (AV.lit u1) []) (a7 (aC u2) (aD (!bJ u2) (K (AV.lit u2) []) (a7 (aC u3) (aD (!bJ u3) (K (AV.lit u3) [])
 (K (AV.lit Value.nilIface) []))))))):=by kernel_rfl
theorem Vp(κ:Kp)(u1 u2 u3 u4:Value)(K:AV->List Dn.Obj->Prop):(a9 (Dj κ) 12 261 [.ad 170 [.lit u1, .lit u2, .lit u3, .lit u4]] [] K)=(
 letI z1:=Pg.toProgram (Env.P (Lx κ))
 af z1 261 2=af z1 261 2/\a7 (aC u1) (aD (!bJ u1) (K (AV.lit u1) []) (a7 (aC u2) (aD (!bJ u2) (K (AV.lit u2) []) (a7 (aC u3) (aD (!bJ u3) (K (AV.lit u3) [])
 (a7 (aC u4) (aD (!bJ u4) (K (AV.lit u4) []) (K (AV.lit Value.nilIface) []))))))))):=by kernel_rfl
def bw(u v:Value):Value:=bif bJ u then v else u
theorem C8(κ:Kp)(a b:Bool):bw (az κ a) (az κ b)=az κ (a&&b):=by cases a<;>rfl
theorem CP{u:Value}(h:aC u=true)(h2:bJ u=true):u= .nilIface:=by cases u<;>simp_all[bJ,aC]
def UJ:List AV->Option (Bool×AV)
 |[.ad 170 [.lit u1, .lit u2]]=>some ((aC u1&&aC u2)&&(a8 u1&&a8 u2), .lit (bw u1 u2))
 |[.ad 170 [.lit u1, .lit u2, .lit u3]]=>some ((aC u1&&(aC u2&&aC u3))&&(a8 u1&&(a8 u2&&a8 u3)), .lit (bw u1 (bw u2 u3)))
 |[.ad 170 [.lit u1, .lit u2, .lit u3, .lit u4]]=>some ((aC u1&&(aC u2&&(aC u3&&aC u4)))&&(a8 u1&&(a8 u2&&(a8 u3&&a8 u4))), .lit (bw u1 (bw u2 (bw u3 u4))))
 |_=>none
theorem Zd(κ:Kp):c9 (Dj κ) 12 261 UJ:=by
 intro args x hh
 unfold UJ at hh
 split at hh
 ·rename_i u1 u2
  simp only[aa4,ab0,aa2] at hh
  obtain⟨⟨⟨h1,h2⟩,h3,h4⟩,rfl⟩:=hh
  refine⟨_,rfl,by unfold bw;cases bJ u1<;>assumption,?_⟩
  rw[UK,h1,h2]
  refine⟨rfl,?_⟩
  unfold bw
  cases e1:bJ u1
  ·rfl
  ·cases e2:bJ u2
   ·rfl
   ·rw[CP h2 e2];rfl
 ·rename_i u1 u2 u3
  simp only[aa4,ab0,aa2] at hh
  obtain⟨⟨⟨h1,h2,h3⟩,h4,h5,h6⟩,rfl⟩:=hh
  refine⟨_,rfl,by unfold bw;cases bJ u1<;>cases bJ u2<;>assumption,?_⟩
  rw[VN,h1,h2,h3]
  refine⟨rfl,?_⟩
  unfold bw
  cases e1:bJ u1
  ·rfl
  ·cases e2:bJ u2
   ·rfl
   ·cases e3:bJ u3
    ·rfl
    ·rw[CP h3 e3];rfl
 ·rename_i u1 u2 u3 u4
  simp only[aa4,ab0,aa2] at hh
  obtain⟨⟨⟨h1,h2,h3,k1⟩,h4,h5,h6,k2⟩,rfl⟩:=hh
  refine⟨_,rfl,by unfold bw;cases bJ u1<;>cases bJ u2<;>cases bJ u3<;>assumption,?_⟩
  rw[Vp,h1,h2,h3,k1]
  refine⟨rfl,?_⟩
  unfold bw
  cases e1:bJ u1
  ·rfl
  ·cases e2:bJ u2
   ·rfl
   ·cases e3:bJ u3
    ·rfl
    ·cases e4:bJ u4
     ·rfl
     ·rw[CP k1 e4];rfl
 ·cases hh
noncomputable def Se(κ:Kp):Env:=(Dj κ).aH 261 UJ
theorem e59(κ:Kp):aB (Se κ):=(Wt κ).aH (RZ κ) (Zd κ)
theorem XJ(κ:Kp):aj (Se κ):=(RZ κ).aH
theorem y49(κ:Kp)(op:Int)(s:ByteArray)(l:List AV)(o1:Int)(s1:ByteArray)(n1:Int)(l1:List AV)(o2:Int)(s2:ByteArray)(n2:Int)(l2:List AV)(K:AV->List Dn.Obj->Prop):(a9 (Se κ) 12 233 [.agg [.int op, .agg [.lit (.string s), .ad 56 l], .agg [.int o1, .lit (.string s1), .int n1, .ad 56 l1], .agg [.int o2, .lit (.string s2), .int n2, .ad 56 l2]]] [] K)=(
 letI z3:=az κ (au 20 (Tm.mk o1 s1 n1 (aa l1)))
 letI z4:=az κ (au 20 (Tm.mk o2 s2 n2 (aa l2)))
 letI z5:=az κ (bf {rel:=s,l:=aa l})
 letI z6:=az κ (decide (o2=(0:Int))&&bare o2 s2 n2&&decide ((↑(l2.length):Int)=(0:Int)))
 letI z7:=Value.iface 306 (Value.pointer (some (Kp.tree κ)))
 letI z8:=az κ (o2==(1:Int))
 letI z10:=az κ (bf {rel:=s,l:=aa l})
 letI z11:=K (AV.lit (bw z5 (bw z8 (bw z3 z4)))) []
 letI z13:=aC z3&&aC z4
 letI z14:=a8 z3&&a8 z4
 letI z17:=K (AV.lit (bw z5 z7)) []
 letI z2:=aD (decide (o1=(0:Int))&&bare o1 s1 n1&&decide ((↑(l1.length):Int)=(0:Int))) (a7 (aC z5&&aC z6&&(a8 z5&&a8 z6)) (K (AV.lit (bw z5
  z6)) [])) (a7 (aC z5&&true&&(a8 z5&&true)) z17)
 letI z12:=a7 (aC z5&&(true&&z13)&&(a8 z5&&(true&&z14))) z17
 letI z18:=az κ (o2 != (4:Int))
 letI z19:=o1==(2:Int)
 letI z20:=K (AV.lit z7) []
 letI z15:=a7 (true&&z13&&(true&&z14)) z20
 letI z1:=aD (lZ s {data:= #[]}&&decide ((↑(l.length):Int)=(0:Int))) (aD (o1 != (4:Int)) (a7 (aC z18&&z13&&(a8 z18&&z14)) (K (AV.lit (bw z18 (bw z3 z4))) [])) z15) z15
 letI z21:=a8 z5&&(a8 z6&&a8 z3)
 letI z22:=aC z8&&z13
 letI z23:=a8 z8&&z14
 letI z9:=aC z5&&z22&&(a8 z5&&z23)
 letI z16:=a7 z9 (K (AV.lit (bw z10 (bw z8 (bw z3 z4)))) [])
 aD (o1==(1:Int)) (aD (op==(1:Int)) z2 (aD (op==(2:Int)) z2 (aD (op==(3:Int)) z1 (aD (op==(4:Int)) z1 (aD (op==(5:Int)) z1 (aD (op==(6
 :Int)) z1 (aD (op==(7:Int)) (a7 (aC z5&&(aC z6&&aC z3)&&z21) (K (AV.lit (bw z5 (bw z6 z3))) [])) (aD (op==(8:Int)) (a7 z9 z11) (aD (op==(9:
 Int)) (a7 (aC z10&&z22&&(a8 z5&&z23)) z11) (aD (op==(10:Int)) z16 z20)))))))))) (aD (op==(1:Int)) z2 (aD (op==(2:Int)) z2 (aD (op==(3:
 Int)) z1 (aD (op==(4:Int)) z1 (aD (op==(5:Int)) z1 (aD (op==(6:Int)) z1 (aD (op==(7:Int)) (aD z19 (a7 (aC z10&&(aC z6&&aC z3)&&z21) (K
 (AV.lit (bw z10 (bw z6 z3))) [])) (a7 (aC z5&&(true&&aC z3)&&(a8 z5&&(true&&a8 z3))) (K (AV.lit (bw z10 z7)) []))) (aD (op==(8:Int)) (aD z19 (a7
 z9 z11) z12) (aD (op==(9:Int)) (aD z19 (a7 (aC z5&&z22&&(a8 z10&&z23)) z11) (a7 (aC z5&&(true&&z13)&&(a8 z10&&(true&&z14))) z17)) (aD (op==
 (10:Int)) (aD z19 z16 z12) z20))))))))))):=by kernel_rfl
theorem LB(κ:Kp)(b x y r:Bool):aD b (AV.lit (az κ x)=AV.lit (az κ r)) (AV.lit (az κ y)=AV.lit (az κ r))↔(AV.lit (az κ (bif b then x else y))=AV.lit (az κ r)):=by
 cases b<;>rfl
theorem Mu(a b:Int):(a==b)=decide (a=b):=by by_cases h:a=b<;>simp[h]
theorem FN(a b:Int):(a != b)= !decide (a=b):=by by_cases h:a=b<;>simp[h]
def UP(κ:Kp):List AV->Option (Bool×AV)
 |[.agg [.lit (.int .i64 op), .agg [.lit (.string s), .ad 56 l], .agg [.lit (.int .i64 o1), .lit (.string s1), .lit (.int .i64 n1), .ad 56 l1], .agg [.lit (.int .i64 o2), .lit (.string s2), .lit (.int .i64 n2), .ad 56 l2]]]=>
  some (true, .lit (az κ (iE ⟨op,⟨s,aa l⟩, .mk o1 s1 n1 (aa l1), .mk o2 s2 n2 (aa l2)⟩)))
 |_=>none
theorem p49(κ:Kp):c9 (Se κ) 12 233 (UP κ):=by
 intro args x hh
 unfold UP at hh
 split at hh
 ·rename_i op s l o1 s1 n1 l1 o2 s2 n2 l2
  simp only[aa4,ab0,true_and] at hh
  subst hh
  refine⟨_,rfl,nV κ _,?_⟩
  rw[y49]
  have ef:Value.iface 306 (.pointer (some κ.tree))=az κ false:=rfl
  rw[ef]
  simp only[l6,nV,C8,Bool.and_true,Bool.and_self,a7]
  simp only[←O5,←P1,Mu,FN,LB]
  refine congrArg (fun b=>AV.lit (az κ b)) ?_
  have ix:S7 (.mk o1 s1 n1 (aa l1))=(decide (o1=1)||decide (o1=2)):=rfl
  rw[HA,ix]
  generalize bf ⟨s,aa l⟩=A
  generalize Qn ⟨s,aa l⟩=N0
  generalize Fx (.mk o1 s1 n1 (aa l1))=N1
  generalize Fx (.mk o2 s2 n2 (aa l2))=N2
  generalize au 20 (.mk o1 s1 n1 (aa l1))=R1
  generalize au 20 (.mk o2 s2 n2 (aa l2))=R2
  generalize decide (o1=1)=a1
  generalize decide (o1=2)=a2
  generalize decide (o1=4)=a4
  generalize decide (o2=4)=b4
  generalize decide (o2=1)=b1
  generalize decide (op=1)=p1
  generalize decide (op=2)=p2
  generalize decide (op=3)=p3
  generalize decide (op=4)=p4
  generalize decide (op=5)=p5
  generalize decide (op=6)=p6
  generalize decide (op=7)=p7
  generalize decide (op=8)=p8
  generalize decide (op=9)=p9
  generalize decide (op=10)=p10
  cases p1
  case true=>cases a1<;>cases N1<;>cases A<;>cases N2<;>rfl
  cases p2
  case true=>cases a1<;>cases N1<;>cases A<;>cases N2<;>rfl
  cases p3
  case true=>cases a1<;>cases N0<;>cases a4<;>cases b4<;>cases R1<;>cases R2<;>rfl
  cases p4
  case true=>cases a1<;>cases N0<;>cases a4<;>cases b4<;>cases R1<;>cases R2<;>rfl
  cases p5
  case true=>cases a1<;>cases N0<;>cases a4<;>cases b4<;>cases R1<;>cases R2<;>rfl
  cases p6
  case true=>cases a1<;>cases N0<;>cases a4<;>cases b4<;>cases R1<;>cases R2<;>rfl
  cases p7
  case true=>cases a1<;>cases a2<;>cases A<;>cases N2<;>cases R1<;>rfl
  cases p8
  case true=>cases a1<;>cases a2<;>cases A<;>cases b1<;>cases R1<;>cases R2<;>rfl
  cases p9
  case true=>cases a1<;>cases a2<;>cases A<;>cases b1<;>cases R1<;>cases R2<;>rfl
  cases p10
  case true=>cases a1<;>cases a2<;>cases A<;>cases b1<;>cases R1<;>cases R2<;>rfl
  cases a1<;>rfl
 ·cases hh
noncomputable def NM(κ:Kp):Env:=(Se κ).aH 233 (UP κ)
theorem e49(κ:Kp):aB (NM κ):=(e59 κ).aH (XJ κ) (p49 κ)
theorem X1(κ:Kp):aj (NM κ):=(XJ κ).aH
structure cg where
 xs:List AV
 more:List AV
 rel:ByteArray
 hl:List AV
 bl:List AV
 line:Int
 i:Int
abbrev aq(a:cg):AV:= .agg [.agg [.lit (.string a.rel), .ad 56 a.hl], .ad 72 a.bl, .int a.line]
abbrev BS(a:cg):S:=sp 69 [(0, .cu 0),(1, .ptr 1 0 [] 0),(25, .ad 56 a.hl),(26, .int a.hl.length),(27, .int a.i)] [.ext (some a.xs), .box 66 (aq a)]
abbrev Jl(a:cg):S:=sp 69 [(0, .cu 0),(57, .ad 72 a.bl),(58, .int a.bl.length),(59, .int a.i)] [.ext (some a.xs), .box 66 (aq a)]
def l5(κ:Kp)(l:List Bool):List AV:=l.map fun b=> .ba [.lit (az κ b)]
def zu(κ:Kp)(a:cg):Prop:=a.hl.length<=aR/\0<=a.i/\a.i<=a.hl.length/\a.xs=l5 κ ((aa (a.hl.drop a.i.toNat)).map (px a.bl.length))++a.more
def Gf(κ:Kp)(a:cg):Prop:=a.bl.length<=aR/\0<=a.i/\a.i<=a.bl.length/\a.xs=l5 κ ((c6 (a.bl.drop a.i.toNat)).map iE)
def Ek(a:cg):Out (Exit×S):= .all (fun _:Bool=>True) fun b=> .aD b (.one (.exit 0,sp 69 [(0, .cu 0),(1, .ptr 1 0 [] 0)] [.ext (some a.more), .box 66 (aq a)]))
 (.one (.ret,sp 69 [] [.ext none, .box 66 (aq a)]))
def JX(a:cg):Out (Exit×S):= .all (fun _:Bool=>True) fun b=> .aD b (.one (.exit 2,sp 69 [] [.ext (some []), .box 66 (aq a)]))
 (.one (.ret,sp 69 [] [.ext none, .box 66 (aq a)]))
theorem VD(κ:Kp)(a:cg)(I:Nat->S->Prop)(n:Nat)(K:Exit->S->Prop):(vc (NM κ) 12 229 none 2 (af (Pr κ).toProgram 229 2) (BS a) (bH (NM κ) 229 2 2 I n K))=(
 letI z2:=IntKind.wrap IntKind.i64 (a.i+(1:Int))
 letI z3:=sp 69 [] [Obj.ext none,Obj.box 66 (aq a)]
 letI z4:=ae (nth a.hl a.i.toNat) 0
 letI z5:=a.hl.length
 letI z1:=∃(e1:List AV),a.xs=AV.ba [AV.lit (Value.iface 306 (Value.pointer (some (Kp.tree κ))))]::e1/\(∃(e0:Nat),e0<n/\I e0 (sp 69 [(0,AV.cu
  0),(1,AV.ptr 1 0 [] 0),(25,AV.ad 56 a.hl),(26,AV.int (↑z5:Int)),(27,AV.int z2)] [Obj.ext (some e1),Obj.box 66 (aq a)]))/\K Exit.ret z3
 aD (decide (a.i<(↑z5:Int))) (a7 (decide ((0:Int)<=a.i)&&decide (a.i<(↑z5:Int))) (aD (toInt z4 != (4:Int)) (aD (!kK (toInt z4)) (aD (toInt z4 !=
 (1:Int)) (∃(e1:List AV),a.xs=AV.ba [AV.lit Value.nilIface]::e1/\(∃(e0:Nat),e0<n/\I e0 (sp 69 [(0,AV.cu 0),(1,AV.ptr 1 0 [] 0),(25,AV.ad
 56 a.hl),(26,AV.int (↑z5:Int)),(27,AV.int z2)] [Obj.ext (some e1),Obj.box 66 (aq a)]))/\K Exit.ret z3) (∃(e1:List AV),a.xs=AV.ba [AV.lit (az κ
 (decide ((↑(a.bl.length):Int)>(0:Int))))]::e1/\(∃(e0:Nat),e0<n/\I e0 (sp 69 [(0,AV.cu 0),(1,AV.ptr 1 0 [] 0),(25,AV.ad 56 a.hl),(26,
 AV.int (↑z5:Int)),(27,AV.int z2)] [Obj.ext (some e1),Obj.box 66 (aq a)]))/\K Exit.ret z3)) z1) z1)) (K (Exit.exit 0) (sp 69 [(0,AV.cu 0),(1,AV.ptr 1 0
 [] 0)] [Obj.ext (some a.xs),Obj.box 66 (aq a)]))):=by kernel_rfl
theorem V2(κ:Kp):bh (NM κ) 12 229 2 (aP 2 BS (zu κ) Ek):=by
 refine aL (fun a=>a.hl.length - a.i.toNat) ?_
 rintro⟨xs,more,rel,hl,bl,line,i⟩ K ⟨h1,h2,h3,h4⟩ ho
 simp only at h1 h2 h3 h4
 rw[show(NM κ).P=Pr κ from rfl,VD]
 have ef:Value.iface 306 (.pointer (some κ.tree))=az κ false:=rfl
 have et:Value.nilIface=az κ true:=rfl
 have ho1:=ho true trivial
 have ho2:=ho false trivial
 simp only[Out.run,aD] at ho1 ho2
 simp only[ef,et]
 simp only[aR] at h1
 simp only[ah,an,aa1,aa3,aa2]
 refine⟨fun hi=>⟨⟨h2,hi⟩,?_⟩,fun hi=>?_⟩
 ·rw[eu hl i.toNat (by omega)] at h4
  have hop:(cM (nth hl i.toNat)).op=toInt (ae (nth hl i.toNat) 0):=by rw[da];rfl
  simp only[ac1,l5,px,hop,List.cons_append] at h4
  rw[aW (n:=i+1) (by omega) (by omega)]
  have go: ∀b,b=(!decide (toInt (ae (nth hl i.toNat) 0)=4)&& !kK (toInt (ae (nth hl i.toNat) 0))&&(!decide (toInt (ae (nth hl i.toNat) 0)=1)||decide (0<bl.length)))->
    ∃rest,xs=AV.ba [AV.lit (az κ b)]::rest/\(∃m,m<hl.length - i.toNat/\fe BS (zu κ) Ek (fun a=>a.hl.length - a.i.toNat) K m (BS ⟨rest,more,rel,hl,bl,line,i+1⟩))/\K Exit.ret (sp 69 [] [.ext none, .box 66 (aq ⟨xs,more,rel,hl,bl,line,i⟩)]):=by
   rintro b rfl
   refine⟨_,h4,⟨_,?_,⟨_,more,rel,hl,bl,line,i+1⟩,rfl,⟨by simpa[aR] using h1,by simp only;omega,by simp only;omega,?_⟩,rfl,ho⟩,ho2⟩
   ·simp only;omega
   ·simp only[l5,show(i+1).toNat=i.toNat+1 by omega]
  simp only[FN,Bool.not_eq_true',ab3,aa1,aa3]
  refine⟨fun e1=>⟨fun e2=>⟨fun e3=>go _ ?_,fun e3=>go _ ?_⟩,fun e2=>go _ ?_⟩,fun e1=>go _ ?_⟩
  ·simp[e1,e2,e3]
  ·have e4:decide ((bl.length:Int)>0)=decide (0<bl.length):=by
    by_cases h:0<bl.length
    ·rw[aa7 h,aa7 (by omega)]
    ·rw[aa5 h,aa5 (by omega)]
   rw[e4]
   simp[e2,e3]
   intro _;rfl
  ·simp[e2]
  ·simp[e1]
 ·rw[aa9 (by omega)] at h4
  simp only[aa,l5,ac2,List.nil_append] at h4
  subst h4
  exact ho1
noncomputable def zU(κ:Kp):Env:=(NM κ).ak 229 2 (aP 2 BS (zu κ) Ek)
theorem VM(κ:Kp):aB (zU κ):=(e49 κ).ak (X1 κ) (V2 κ)
theorem Sa(κ:Kp):aj (zU κ):=(X1 κ).ak aF
theorem Wv(κ:Kp)(a:cg)(I:Nat->S->Prop)(n:Nat)(K:Exit->S->Prop):(vc (zU κ) 12 229 none 2 (af (Pr κ).toProgram 229 7) (Jl a) (bH (zU κ) 229 7 2 I n K))=(
 letI z1:=nth a.bl a.i.toNat
 letI z2:=AV.agg [AV.agg [AV.str a.rel,AV.ad 56 a.hl],AV.ad 72 a.bl,AV.int a.line]
 letI z3:=a.i<(↑(a.bl.length):Int)
 aD (decide z3) (a7 (decide ((0:Int)<=a.i)&&decide z3) (∃(e1:List AV),a.xs=AV.ba [AV.lit (az κ (iE {op:=toInt (ae z1 0),a:={rel:=toStr (ae (ae z1 1) 0),l:=aa (ai (ae (ae z1 1) 1))},x:=Tm.mk (toInt (ae (ae z1 2) 0)) (toStr (ae (ae z1 2) 1)) (toInt (ae (ae z1 2) 2)) (aa (ai (ae (ae z1 2) 3))),y:=Tm.mk (toInt (ae (ae z1 3) 0)) (toStr (ae (ae z1 3) 1)) (toInt (ae (ae z1 3) 2)) (aa (ai (ae (ae z1 3) 3)))}))]::e1/\(∃(e0:Nat),e0<n/\I e0 (sp 69 [(0,AV.cu 0),(57,AV.ad 72 a.bl),(58,AV.int (↑(a.bl.length):Int)),(59,AV.int (IntKind.wrap IntKind.i64 (a.i+(1:Int))))] [Obj.ext (some e1),Obj.box 66 z2]))/\K Exit.ret (sp 69 [] [Obj.ext none,Obj.box 66 z2]))) (K (Exit.exit 2) (sp 69 [] [Obj.ext (some a.xs),Obj.box 66 z2]))):=by kernel_rfl
theorem Ww(κ:Kp):bh (zU κ) 12 229 7 (aP 2 Jl (Gf κ) JX):=by
 refine aL (fun a=>a.bl.length - a.i.toNat) ?_
 rintro⟨xs,more,rel,hl,bl,line,i⟩ K ⟨h1,h2,h3,h4⟩ ho
 simp only at h1 h2 h3 h4
 rw[show(zU κ).P=Pr κ from rfl,Wv]
 have ho1:=ho true trivial
 have ho2:=ho false trivial
 simp only[Out.run,aD] at ho1 ho2
 simp only[aR] at h1
 simp only[ah,an,aa1,aa3,aa2,←lt_eq]
 refine⟨fun hi=>⟨⟨h2,hi⟩,?_⟩,fun hi=>?_⟩
 ·rw[na bl i.toNat (by omega)] at h4
  simp only[ac1,l5] at h4
  rw[aW (n:=i+1) (by omega) (by omega)]
  refine⟨_,h4,⟨_,?_,⟨_,more,rel,hl,bl,line,i+1⟩,rfl,⟨by simpa[aR] using h1,by simp only;omega,by simp only;omega,?_⟩,rfl,ho⟩,ho2⟩
  ·simp only;omega
  ·simp only[l5,show(i+1).toNat=i.toNat+1 by omega]
 ·rw[aa9 (by omega)] at h4
  simp only[c6,l5,ac2] at h4
  subst h4
  exact ho1
noncomputable def Ko(κ:Kp):Env:=(zU κ).ak 229 7 (aP 2 Jl (Gf κ) JX)
theorem Vr(κ:Kp):aB (Ko κ):=(VM κ).ak (Sa κ) (Ww κ)
theorem RT(κ:Kp):aj (Ko κ):=(Sa κ).ak aF
theorem y45(κ:Kp)(a:cg)(K:AV->List Dn.Obj->Prop):(a9 (Ko κ) 12 229 [.cu 0, .ptr 1 0 [] 0] [.ext (some a.xs), .box 66 (aq a)] K)=(
 letI z1:=AV.agg [AV.agg [AV.str a.rel,AV.ad 56 a.hl],AV.ad 72 a.bl,AV.int a.line]
 letI z2:=Pg.toProgram (Env.P (NM κ))
 letI z3:=Pg.toProgram (Env.P (zU κ))
 ∃(e5:List AV),a.xs=AV.ba [AV.lit (az κ (bf {rel:=a.rel,l:=aa a.hl}))]::e5/\(∃(e4:List AV),e5=AV.ba [AV.lit (az κ (decide ((↑(a.bl.length):Int)<=(20:Int))))]::e4/\(af z2 229 2=af z2 229 2/\∃(e3:cg),sp 69 [(0,AV.cu 0),(1,AV.ptr 1 0 [] 0),(25,AV.ad 56 a.hl),(26,AV.int (↑(a.hl.length):Int)),(27,AV.int 0)] [Obj.ext (some e4),Obj.box 66 z1]=sp 69 [(0,AV.cu 0),(1,AV.ptr 1 0 [] 0),(25,AV.ad 56 e3.hl),(26,AV.int (↑(e3.hl.length):Int)),(27,AV.int e3.i)] [Obj.ext (some e3.xs),Obj.box 66 (AV.agg [AV.agg [AV.str e3.rel,AV.ad 56 e3.hl],AV.ad 72 e3.bl,AV.int e3.line])]/\(e3.hl.length<=9223372036854775807/\(0:Int)<=e3.i/\e3.i<=(↑(e3.hl.length):Int)/\e3.xs=l5 κ (List.map (px e3.bl.length) (aa (List.drop e3.i.toNat e3.hl)))++e3.more)/\∀(e2:Bool),True->aD e2 (af z3 229 7=af z3 229 7/\∃(e1:cg),sp 69 [(0,AV.cu 0),(57,AV.ad 72 e3.bl),(58,AV.int (↑(e3.bl.length):Int)),(59,AV.int 0)] [Obj.ext (some e3.more),Obj.box 66 (AV.agg [AV.agg [AV.str e3.rel,AV.ad 56 e3.hl],AV.ad 72 e3.bl,AV.int e3.line])]=sp 69 [(0,AV.cu 0),(57,AV.ad 72 e1.bl),(58,AV.int (↑(e1.bl.length):Int)),(59,AV.int e1.i)] [Obj.ext (some e1.xs),Obj.box 66 (AV.agg [AV.agg [AV.str e1.rel,AV.ad 56 e1.hl],AV.ad 72 e1.bl,AV.int e1.line])]/\(e1.bl.length<=9223372036854775807/\(0:Int)<=e1.i/\e1.i<=(↑(e1.bl.length):Int)/\e1.xs=l5 κ (List.map iE (c6 (List.drop e1.i.toNat e1.bl))))/\∀(e0:Bool),True->aD e0 (K (AV.ba []) [Obj.ext (some []),Obj.box 66 (AV.agg [AV.agg [AV.str e1.rel,AV.ad 56 e1.hl],AV.ad 72 e1.bl,AV.int e1.line])]) (K (AV.ba []) [Obj.ext none,Obj.box 66 (AV.agg [AV.agg [AV.str e1.rel,AV.ad 56 e1.hl],AV.ad 72 e1.bl,AV.int e1.line])])) (K (AV.ba []) [Obj.ext none,Obj.box 66 (AV.agg [AV.agg [AV.str e3.rel,AV.ad 56 e3.hl],AV.ad 72 e3.bl,AV.int e3.line])]))/\K (AV.ba []) [Obj.ext none,Obj.box 66 z1])/\K (AV.ba []) [Obj.ext none,Obj.box 66 z1]):=by kernel_rfl
def J7(a:cg):List AV×List Dn.Obj:=([.cu 0, .ptr 1 0 [] 0],[.ext (some a.xs), .box 66 (aq a)])
def C5(κ:Kp)(a:cg):Prop:=a.hl.length<=aR/\a.bl.length<=aR/\a.xs=l5 κ (ri ⟨⟨a.rel,aa a.hl⟩,c6 a.bl⟩)
def IJ:cg->Out (AV×List Dn.Obj):=fun _=> .all (fun st'=>qP st') fun st'=> .one (.ba [],st')
theorem c45(κ:Kp):bq (Ko κ) 12 229 (aM J7 (C5 κ) IJ):=by
 refine aZ ?_
 rintro⟨xs,more,rel,hl,bl,line,i⟩ K ⟨h1,h2,h3⟩ ho
 simp only at h1 h2 h3
 simp only[J7]
 rw[y45 κ ⟨xs,more,rel,hl,bl,line,i⟩]
 simp only
 have hn: ∀b,K (.ba []) [.ext none,b]:=fun b=>ho _ trivial
 have h0: ∀b,K (.ba []) [.ext (some []),b]:=fun b=>ho _ trivial
 subst h3
 have TX:decide ((bl.length:Int)<=20)=decide (bl.length<=20):=by
  by_cases h:bl.length<=20
  ·rw[aa7 h,aa7 (by omega)]
  ·rw[aa5 h,aa5 (by omega)]
 rw[TX]
 simp only[ri,l5,ac1,zg]
 refine⟨_,rfl,⟨_,rfl,⟨trivial,⟨_,l5 κ ((c6 bl).map iE),rel,hl,bl,line,0⟩,rfl,⟨h1,by simp only;omega,by simp only;omega,?_⟩,?_⟩,hn _⟩,hn _⟩
 ·simp[l5,zg]
 ·intro y _
  cases y
  ·exact hn _
  ·refine⟨trivial,⟨_,[],rel,hl,bl,line,0⟩,rfl,⟨h2,by simp only;omega,by simp only;omega,by simp[l5]⟩,?_⟩
   intro y _
   cases y
   ·exact hn _
   ·exact h0 _
set_option maxRecDepth 20000 in
noncomputable def OH(κ:Kp):Env:=(Ko κ).ay 229 (aM J7 (C5 κ) IJ)
theorem YV(κ:Kp):aB (OH κ):=(Vr κ).ay (RT κ) (c45 κ)
theorem Yu(κ:Kp):aj (OH κ):=(RT κ).ay aJ
noncomputable abbrev PI(κ:Kp)(a:cg)(st:LoopState)(p:Option Code):Dn.Obj:=
 .loop (fR (Pr κ).toProgram 111 3 st p (fK (bz 15) [(0,aq a),(1, .ptr 0 0 [] 0),(2, .bool false),(3, .ptr 1 0 [] 0),(5,aq a),(6, .bI 229 [.ptr 2 0 [] 0])]))
noncomputable abbrev oM(κ:Kp)(a:cg):List Dn.Obj:=[.box 66 (aq a), .box 170 (.lit .nilIface), .box 66 (aq a),PI κ a .ready none]
noncomputable abbrev DL(κ:Kp)(a:cg):List Dn.Obj:=[.box 66 (aq a), .box 170 (.lit .nilIface), .dead,PI κ a .ready none]
theorem s16(κ:Kp)(a:cg)(Q:List Dn.Obj->Prop):(tidy (Pr κ).toProgram 4 (dO (oM κ a) (ct (oM κ a) [.ptr 2 0 [] 0])) Q)=(
 Q [Obj.box 66 (aq a),Obj.box 170 (AV.lit Value.nilIface),Obj.dead,Dn.Obj.loop (fR Tryz.prog 111 3 LoopState.ready none (fK (bz 15) [(0,aq a),(1,AV.ptr 0 0
 [] 0),(2,AV.bool false),(3,AV.ptr 1 0 [] 0),(5,aq a),(6,AV.bI 229 [AV.ptr 2 0 [] 0])]))]):=by kernel_rfl
theorem Zf(κ:Kp)(a:cg)(u:Value)(Q:List Dn.Obj->Prop)(K2:List Dn.Obj->Prop):(gG (vc (OH κ) 12) 3 [.lit u] (DL κ a) (fun r st''=>match r with| .lit (.bool true)=>tidy (Pr κ).toProgram 4 st'' Q| .lit (.bool false)=>K2 st''|_=>False))=(
 letI z1:=fK (bz 15) [(0,aq a),(1,AV.ptr 0 0 [] 0),(2,AV.bool false),(3,AV.ptr 1 0 [] 0),(5,aq a),(6,AV.bI 229 [AV.ptr 2 0 [] 0])]
 a7 (aC u) (aD (!bJ u) (K2 [Obj.box 66 (aq a),Obj.box 170 (AV.lit u),Obj.dead,Dn.Obj.loop (fR Tryz.prog 111 3 LoopState.done (some (Code.exit 0)) z1)]) (Q
 [Obj.box 66 (aq a),Obj.box 170 (AV.lit Value.nilIface),Obj.dead,Dn.Obj.loop (fR Tryz.prog 111 3 LoopState.ready none z1)]))):=by kernel_rfl
noncomputable abbrev P6(κ:Kp)(a:cg):List Dn.Obj:=[.box 66 (aq a), .box 170 (.lit (az κ false)), .dead,PI κ a .done (some (.exit 0))]
def vw(a:cg):Rl:=⟨⟨a.rel,aa a.hl⟩,c6 a.bl⟩
theorem k16(κ:Kp)(a:cg)(xs:List AV):(AV.cu 0::fM (ju (ct (oM κ a) [.ptr 2 0 [] 0])) [.ptr 2 0 [] 0],Obj.ext (some xs)::fZ (ju (ct (oM κ a) [.ptr 2 0 [] 0])) (gE (oM κ a) (ct (oM κ a) [.ptr 2 0 [] 0])))=J7 {a with xs:=xs}:=by kernel_rfl
theorem o16(κ:Kp)(a:cg):mV (oM κ a) [.ptr 2 0 [] 0]=true:=by kernel_rfl
noncomputable def Qr(κ:Kp):dv:=fun caps st K=>∃a:cg,(caps,st)=([AV.ptr 2 0 [] 0],oM κ a)/\(a.hl.length<=aR/\a.bl.length<=aR)/\aD (aK (vw a)) (K (DL κ a)) (K (P6 κ a))
theorem GM(κ:Kp):(Qr κ).iT:=by
 rintro caps st K K' hK ⟨a,h1,h2,h3⟩
 refine⟨a,h1,h2,?_⟩
 rw[ah] at h3⊢
 exact⟨fun e=>hK _ (h3.1 e),fun e=>hK _ (h3.2 e)⟩
theorem call45(κ:Kp)(args:List AV)(st:List Dn.Obj)(K:AV->List Dn.Obj->Prop)(h:aM J7 (C5 κ) IJ args st K):(OH κ).call 229 args st K:=h
theorem Wy(κ:Kp):kP (OH κ) 12 229 (Qr κ):=by
 rintro caps st K ⟨a,h1,h2,h3⟩
 obtain⟨rfl,rfl⟩:=Prod.mk.inj h1
 rw[ah] at h3
 refine⟨l5 κ (ri (vw a)),fun items st'=>∃l,items=l5 κ l/\st'=DL κ a/\aK (vw a)=l.all id,⟨o16 κ a,?_,?_,?_,?_⟩⟩
 ·refine call45 κ _ _ _ ?_
  refine⟨{a with xs:=l5 κ (ri (vw a))},?_,⟨h2.1,h2.2,rfl⟩,fun st' h=>h⟩
  exact k16 κ a _
 ·rw[show(OH κ).P=Pr κ from rfl,show(oM κ a).length=4 from rfl,s16]
  exact⟨_,rfl,rfl,Ea _⟩
 ·rintro us rest st' ⟨l,e1,rfl,e3⟩
  cases l with
  |nil=>cases e1
  |cons b l=>
   simp only[l5,ac1,List.cons.injEq,AV.ba.injEq] at e1
   obtain⟨rfl,rfl⟩:=e1
   rw[show(OH κ).P=Pr κ from rfl,show(oM κ a).length=4 from rfl]
   refine Eq.mpr (Zf κ a (az κ b) _ _) ?_
   rw[l6,pR]
   cases b with
   |true=>exact⟨l,rfl,rfl,by rw[e3];rfl⟩
   |false=>exact h3.2 (by rw[e3];rfl)
 ·rintro st' ⟨l,e1,rfl,e3⟩
  cases l with
  |nil=>exact h3.1 (by rw[e3];rfl)
  |cons b l=>cases e1
def U3:List Nat:=[229]
noncomputable def O3(κ:Kp):Env:=((OH κ).addRange 111 3 229 (Qr κ)).dn (fun f=>jM f U3)
theorem Wz(κ:Kp):aB (O3 κ):=((YV κ).addRange (Yu κ) (Wy κ)).dn _
theorem Vy(κ:Kp):aj (O3 κ):=((Yu κ).addRange (GM κ)).dn _
end Go.Proofs.YthaiinlfnommnaaGreatDoor
namespace Go.Proofs.YthaiinlfnommnaaGreatDoor
open Go Go.Dn Go.Rl Go.Proofs Go.RowKit Go.Extern.Stop Go.Stop Go.Extern
theorem uz(v:Value)(w:World):(Extern.ReflectliteType.typeOf #[.iface 306 v]).run Tryz.prog w= .ok (.iface 282 (.agg #[.pointer (some ⟨5,306,none⟩)])) w:=by kernel_rfl
theorem mq(w:World):((Extern.ReflectliteType.method fun t=>do Go.Extern.Rtype.noPackHeld "Comparable" t;(fun a=>Value.bool a.comparable)<$>typeInfo t) #[.agg #[.pointer (some ⟨5,306,none⟩)]]).run Tryz.prog w= .ok (.bool true) w:=by kernel_rfl
theorem ib(v:Value)(w:World):(Go.method 443 282 v "Comparable").run Tryz.prog w= .ok (290,v) w:=by kernel_rfl
theorem Cv:(Tryz.prog.info? 306).map (·.comparable)=some true:=by kernel_rfl
theorem CX:(Tryz.prog.info? 331).map (·.size)=some 1:=by kernel_rfl
set_option maxRecDepth 4000 in
theorem Fi(a:Addr)(w:World):
  Calls Tryz.prog 113 #[.iface 306 (.pointer (some a)), .iface 306 (.pointer (some a))] w fun e w'=>e= .returned (.bool true)/\w'=w:=by
 obtain⟨i,hi,hcmp⟩:=Option.map_eq_some_iff.1 Cv
 obtain⟨j,hj,hjs⟩:=Option.map_eq_some_iff.1 CX
 have h8:= @run_callFunc_extern Tryz.prog 184 _ Extern.ReflectliteType.typeOf Tryz.func184 (by kernel_rfl) (by kernel_rfl) (by kernel_rfl) (by kernel_rfl)
 have h32:= @run_callFunc_extern Tryz.prog 290 _ (Extern.ReflectliteType.method fun t=>do Go.Extern.Rtype.noPackHeld "Comparable" t;pure (.bool (←typeInfo t).comparable)) Tryz.func290 (by kernel_rfl) (by kernel_rfl) (by kernel_rfl) (by kernel_rfl)
 have tT:=uz
 have cT:=mq
 have mR:=ib
 have heq:=run_eql_iface_ptr_same (P:=Tryz.prog) w a Tryz.underlying170 Tryz.underlying306 hi hcmp hj
 go_enter Tryz.func113,Tryz.ntmps113
 go_wp2
 refine wp_loop_rounds 1 ?_
 rw[rounds_succ]
 go_wp2
 go_ret
 exact⟨rfl,rfl⟩
theorem Ic(b:Addr)(w:World):
  Calls Tryz.prog 113 #[.nilIface, .iface 306 (.pointer (some b))] w fun e w'=>e= .returned (.bool false)/\w'=w:=by
 have hn:=run_eql_iface_nil_left (P:=Tryz.prog) w 306 (.pointer (some b)) Tryz.underlying170
 go_enter Tryz.func113,Tryz.ntmps113
 go_wp2
 go_ret
 exact⟨rfl,rfl⟩
def WB:List AV->Option (Bool×AV)
 |[.lit .nilIface, .lit (.iface 306 (.pointer (some _)))]=>some (true, .bool false)
 |[.lit (.iface 306 (.pointer (some a))), .lit (.iface 306 (.pointer (some b)))]=>some (decide (a=b), .bool true)
 |_=>none
theorem wh{C:Ctx}{u v:Value}{vs:Array Value}(h:MT C [.lit u, .lit v] vs.toList):vs= #[u,v]:=by
 obtain⟨l⟩:=vs
 match l,h with
 |[a,b],h=>
  simp only[MT] at h
  have h1:Rel C (.lit u) a:=⟨h.1,h.2.1,h.2.2.1⟩
  have h2:Rel C (.lit v) b:=⟨h.2.2.2.1,h.2.2.2.2.1,h.2.2.2.2.2.1⟩
  rw[aQ h1,aQ h2]
 |[],h=>simp[MT] at h
 |[_],h=>simp[MT] at h
 |_::_::_::_,h=>simp[MT] at h
theorem qIs(κ:Kp):gZ (Pr κ) 113 WB:=by
 intro args x hn hg
 unfold WB at hg
 split at hg
 ·simp only[aa4,ab0,true_and] at hg
  subst hg
  refine⟨_,_,Tryz.func113,rfl,rfl,rfl,fun C vs hC hI hm=>?_⟩
  rw[wh hm]
  refine(callsIn_wide.2 (Ic _ C.w)).mono ?_
  rintro e w' ⟨rfl,rfl⟩
  exact⟨rfl,gU.refl _⟩
 ·simp only[aa4,ab0,aa1] at hg
  obtain⟨rfl,rfl⟩:=hg
  refine⟨_,_,Tryz.func113,rfl,rfl,rfl,fun C vs hC hI hm=>?_⟩
  rw[wh hm]
  refine(callsIn_wide.2 (Fi _ C.w)).mono ?_
  rintro e w' ⟨rfl,rfl⟩
  exact⟨rfl,gU.refl _⟩
 ·cases hg
end Go.Proofs.YthaiinlfnommnaaGreatDoor
namespace Go.Proofs.YthaiinlfnommnaaGreatDoor
open Go Go.Dn Go.Rl Go.Proofs
attribute [local irreducible] a9 vc
set_option maxRecDepth 20000
noncomputable def SW(κ:Kp):Env:=(O3 κ).aH 113 WB
theorem eIs(κ:Kp):aB (SW κ):=(Wz κ).eZ (qIs κ)
theorem Ys(κ:Kp):aj (SW κ):=(Vy κ).aH
theorem y16(κ:Kp)(a:cg)(K:AV->List Dn.Obj->Prop):(a9 (SW κ) 12 111 [aq a] [] K)=(
 ∃(e0:cg),([AV.ptr 2 0 [] 0],[Obj.box 66 (aq a),Obj.box 170 (AV.lit Value.nilIface),Obj.box 66 (aq a),Dn.Obj.loop (fR Tryz.prog 111 3 LoopState.ready
 none (fK (bz 15) [(0,aq a),(1,AV.ptr 0 0 [] 0),(2,AV.bool false),(3,AV.ptr 1 0 [] 0),(5,aq a),(6,AV.bI 229 [AV.ptr 2 0 [] 0])]))])=([AV.ptr 2 0 []
 0],[Obj.box 66 (aq e0),Obj.box 170 (AV.lit Value.nilIface),Obj.box 66 (aq e0),Dn.Obj.loop (fR Tryz.prog 111 3 LoopState.ready none (fK (bz 15) [(0,aq e0),
 (1,AV.ptr 0 0 [] 0),(2,AV.bool false),(3,AV.ptr 1 0 [] 0),(5,aq e0),(6,AV.bI 229 [AV.ptr 2 0 [] 0])]))])/\(e0.hl.length<=9223372036854775807/\
 e0.bl.length<=9223372036854775807)/\aD (aK (vw e0)) (K (AV.bool true) []) (a7 (decide (Kp.tree κ=Kp.tree κ)) (K (AV.bool false) []))):=by kernel_rfl
def UW:List AV->Option (Bool×AV)
 |[.agg [.agg [.lit (.string rel), .ad 56 hl], .ad 72 bl, .lit (.int .i64 _)]]=>some (decide (hl.length<=aR)&&decide (bl.length<=aR), .bool (aK ⟨⟨rel,aa hl⟩,c6 bl⟩))
 |_=>none
theorem p16(κ:Kp):c9 (SW κ) 12 111 UW:=by
 intro args x hh
 unfold UW at hh
 split at hh
 ·rename_i rel hl bl line
  simp only[aa4,ab0,aa2,aa1] at hh
  obtain⟨⟨h1,h2⟩,rfl⟩:=hh
  refine⟨_,rfl,rfl,?_⟩
  rw[y16 κ ⟨[],[],rel,hl,bl,line,0⟩]
  refine⟨⟨[],[],rel,hl,bl,line,0⟩,rfl,⟨h1,h2⟩,?_⟩
  rw[ah]
  refine⟨fun e=>?_,fun e=>?_⟩
  ·rw[show aK ⟨⟨rel,aa hl⟩,c6 bl⟩=true from e]
  ·rw[show aK ⟨⟨rel,aa hl⟩,c6 bl⟩=false from e]
   simp[a7]
 ·cases hh
noncomputable def Uo(κ:Kp):Env:=(SW κ).aH 111 UW
theorem XD(κ:Kp):aB (Uo κ):=(eIs κ).aH (Ys κ) (p16 κ)
theorem Xr(κ:Kp):aj (Uo κ):=(Ys κ).aH
def O4(l:List AV):List AV×List Dn.Obj:=([.ad 56 l],[])
def Qo(n:Nat)(l:List AV):Prop:=aX (aa l)=n/\n<=100000
def Ih(l:List AV):Out (AV×List Dn.Obj):= .one (.ar 0 0 (aw (aa l)).length,[.row 9 (strs (aw (aa l)))])
def JI(n:Nat):dj:=aM O4 (Qo n) Ih
noncomputable def ya(κ:Kp)(r:Nat):Env:=(Uo κ).ay 182 fun args st K=>∃m,m<r/\JI m args st K
theorem x31(κ:Kp)(r:Nat)(l:List AV)(i:Int)(xs:List AV)(k:Nat)(I:Nat->S->Prop)(n:Nat)(K:Exit->S->Prop):(vc (ya κ r) 12 182 none 0 (af (Pr κ).toProgram 182 3) (sp 27 [(3, .ar 0 0 k),(6, .ad 56 l),(7, .int l.length),(8, .int i)] [.row 9 xs]) (bH (ya κ r) 182 3 0 I n K))=(
 letI z1:=IntKind.wrap IntKind.i64 (i+(1:Int))
 letI z2:=nth l i.toNat
 letI z3:=i<(↑(l.length):Int)
 aD (decide z3) (a7 (decide ((0:Int)<=i)&&decide z3) (aD (toInt (ae z2 0)==(1:Int)) (a7 (decide ((k+1+1)*17<=70368744177664)) (∃(e2:Nat),e2<
 r/\∃(e1:List AV),([AV.ad 56 (ai (ae z2 3))],aI)=([AV.ad 56 e1],aI)/\(aX (aa e1)=e2/\e2<=100000)/\a7 (decide ((k+1+List.length (List.take
 (List.length (aw (aa e1))) (List.drop 0 (strs (aw (aa e1)))))+1)*17<=70368744177664)) (∃(e0:Nat),e0<n/\I e0 (sp 27 [(3,AV.ar 0 0 (k+1+
 List.length (List.take (List.length (aw (aa e1))) (List.drop 0 (strs (aw (aa e1))))))),(6,AV.ad 56 l),(7,AV.int (↑(l.length):Int)),(8,AV.int z1)]
 [Obj.row 9 (List.take (k+1) (List.take k xs++[AV.str (toStr (ae z2 1))])++List.take (List.length (aw (aa e1))) (List.drop 0 (strs (aw (aa e1)))))])))) (∃
 (e2:Nat),e2<r/\∃(e1:List AV),([AV.ad 56 (ai (ae z2 3))],aI)=([AV.ad 56 e1],aI)/\(aX (aa e1)=e2/\e2<=100000)/\a7 (decide ((k+List.length
 (List.take (List.length (aw (aa e1))) (List.drop 0 (strs (aw (aa e1)))))+1)*17<=70368744177664)) (∃(e0:Nat),e0<n/\I e0 (sp 27 [(3,AV.ar 0 0 (k+
 List.length (List.take (List.length (aw (aa e1))) (List.drop 0 (strs (aw (aa e1))))))),(6,AV.ad 56 l),(7,AV.int (↑(l.length):Int)),(8,AV.int z1)]
 [Obj.row 9 (List.take k xs++List.take (List.length (aw (aa e1))) (List.drop 0 (strs (aw (aa e1)))))]))))) (K (Exit.exit 0) (sp 27 [(3,AV.ar 0 0 k)] [Obj.row
 9 xs]))):=by kernel_rfl
abbrev FT(a:List AV×Int×List ByteArray):S:=sp 27 [(3, .ar 0 0 a.2.2.length),(6, .ad 56 a.1),(7, .int a.1.length),(8, .int a.2.1)] [.row 9 (strs a.2.2)]
def F9(r:Nat)(a:List AV×Int×List ByteArray):Prop:=a.1.length<=aR/\0<=a.2.1/\a.2.1<=a.1.length/\aX (aa (a.1.drop a.2.1.toNat))<=r/\a.2.2.length+aX (aa (a.1.drop a.2.1.toNat))<=100000
def uX(a:List AV×Int×List ByteArray):Out (Exit×S):= .one (.exit 0,sp 27 [(3, .ar 0 0 (a.2.2++aw (aa (a.1.drop a.2.1.toNat))).length)] [.row 9 (strs (a.2.2++aw (aa (a.1.drop a.2.1.toNat))))])
theorem EX(l:List AV)(i:Nat)(h:i<l.length):aX (aa (l.drop i))=1+aX (aa (ai (ae (nth l i) 3)))+aX (aa (l.drop (i+1))):=by
 rw[eu l i h,aX,da,Tm.iS]
theorem KX(l:List AV)(i:Nat)(h:i<l.length):aw (aa (l.drop i))=(bif decide (toInt (ae (nth l i) 0)=1) then[toStr (ae (nth l i) 1)] else[])++aw (aa (ai (ae (nth l i) 3)))++aw (aa (l.drop (i+1))):=by
 rw[eu l i h,aw,da,Tm.vars]
theorem l31(κ:Kp)(r:Nat):bh (ya κ r) 12 182 3 (aP 0 FT (F9 r) uX):=by
 refine aL (fun a=>a.1.length - a.2.1.toNat) ?_
 rintro⟨l,i,vs⟩ K ⟨h1,h2,h3,h4,h5⟩ ho
 simp only at h1 h2 h3 h4 h5
 rw[show(ya κ r).P=Pr κ from rfl]
 refine Eq.mpr (x31 κ r l i (strs vs) vs.length _ _ K) ?_
 simp only[ab1,cQ]
 simp only[aR] at h1
 simp only[ah,an,aa1,aa3,aa2,beq_iff_eq,beq_eq_false_iff_ne]
 refine⟨fun hi=>⟨⟨h2,hi⟩,?_⟩,fun hi=>?_⟩
 ·have hc:=EX l i.toNat (by omega)
  have hv:=KX l i.toNat (by omega)
  have hle:=cr (aa (ai (ae (nth l i.toNat) 3)))
  rw[aW (n:=i+1) (by omega) (by omega)]
  refine⟨fun e1=>⟨by omega,_,?_,ai (ae (nth l i.toNat) 3),rfl,⟨rfl,by omega⟩,?_,_,?_,(l,i+1,vs++[toStr (ae (nth l i.toNat) 1)]++aw (aa (ai (ae (nth l i.toNat) 3)))),?_,⟨by simpa[aR] using h1,by simp only;omega,by simp only;omega,?_,?_⟩,rfl,?_⟩,
   fun e1=>⟨_,?_,ai (ae (nth l i.toNat) 3),rfl,⟨rfl,by omega⟩,?_,_,?_,(l,i+1,vs++aw (aa (ai (ae (nth l i.toNat) 3)))),?_,⟨by simpa[aR] using h1,by simp only;omega,by simp only;omega,?_,?_⟩,rfl,?_⟩⟩
  all_goals first
   |omega
   |(simp only[aU];omega)
   |(simp only[show(i+1).toNat=i.toNat+1 by omega,ab9,List.length_cons,List.length_nil];omega)
   |skip
  ·simp only[FT,gR,aU,ab9,List.length_cons,List.length_nil]
   rw[List.take_of_length_le (by simp[aU])]
   rfl
  ·simp only[uX,Out.run,show(i+1).toNat=i.toNat+1 by omega] at ho⊢
   rw[hv,aa7 e1] at ho
   simpa[List.append_assoc] using ho
  ·simp only[FT,gR,aU,ab9]
  ·simp only[uX,Out.run,show(i+1).toNat=i.toNat+1 by omega] at ho⊢
   rw[hv,aa5 e1] at ho
   simpa[List.append_assoc] using ho
 ·simp only[uX,Out.run] at ho
  rw[aa9 (by omega)] at ho
  simpa[aa,aw] using ho
noncomputable def GU(κ:Kp)(r:Nat):Env:=(ya κ r).ak 182 3 (aP 0 FT (F9 r) uX)
theorem y31(κ:Kp)(r:Nat)(l:List AV)(K:AV->List Dn.Obj->Prop):(a9 (GU κ r) 12 182 [.ad 56 l] [] K)=(
 af (Pg.toProgram (Env.P (ya κ r))) 182 3=af (Pg.toProgram (Env.P (ya κ r))) 182 3/\∃(a:List AV×Int×List ByteArray),sp 27 [(3,AV.ar 0
 0 0),(6,AV.ad 56 l),(7,AV.int (↑(l.length):Int)),(8,AV.int 0)] [Obj.row 9 []]=sp 27 [(3,AV.ar 0 0 (List.length a.2.2)),(6,AV.ad 56 a.1),(7,
 AV.int (↑(a.1.length):Int)),(8,AV.int a.2.1)] [Obj.row 9 (strs a.2.2)]/\(a.1.length<=9223372036854775807/\(0:Int)<=a.2.1/\a.2.1<=(↑(a.1.length):
 Int)/\aX (aa (List.drop a.2.1.toNat a.1))<=r/\List.length a.2.2+aX (aa (List.drop a.2.1.toNat a.1))<=100000)/\K (AV.ar 0 0 (List.length
 (a.2.2++aw (aa (List.drop a.2.1.toNat a.1))))) [Obj.row 9 (strs (a.2.2++aw (aa (List.drop a.2.1.toNat a.1))))]):=by kernel_rfl
theorem GJ(n:Nat):(JI n).iT:=aJ
theorem VY(κ:Kp)(r:Nat)(hp: ∀args st K,(∃m,m<r/\JI m args st K)->dp (Pr κ) 182 args st K):aB (GU κ r)/\aj (GU κ r)/\(GU κ r).P=Pr κ:=
 have h:aB (ya κ r):=(XD κ).iz hp
 have hm:aj (ya κ r):=(Xr κ).ay (fun _ _ _ _ hK ⟨m,h1,h2⟩=>⟨m,h1,GJ m _ _ _ _ hK h2⟩)
 ⟨h.ak hm (l31 κ r),hm.ak aF,rfl⟩
theorem c31(κ:Kp)(r:Nat):bq (GU κ r) 12 182 (JI r):=by
 refine aZ ?_
 rintro l K ⟨h1,h2⟩ ho
 refine Eq.mpr (y31 κ r l K) ?_
 have:=fk (aa l)
 rw[eC] at this
 refine⟨rfl,(l,0,[]),rfl,⟨by simp only;omega,by simp only;omega,by simp only;omega,?_,?_⟩,?_⟩
 ·simp only[ab8,ab1];omega
 ·simp only[ab8,ab1,List.length_nil];omega
 ·simp only[ab8,ab1,List.nil_append]
  exact ho
def bC(l:List AV):Prop:=aX (aa l)<=100000
theorem Zk(κ:Kp): ∀args st K,aM O4 bC Ih args st K->dp (Pr κ) 182 args st K:=by
 rintro args st K ⟨l,h1,h2,h3⟩
 exact aB.sV JI (GU κ) (VY κ) (c31 κ) (aX (aa l)) args st K ⟨l,h1,⟨rfl,h2⟩,h3⟩
noncomputable def LP(κ:Kp):Env:=(Uo κ).ay 182 (aM O4 bC Ih)
theorem e31(κ:Kp):aB (LP κ):=(XD κ).iz (Zk κ)
theorem W4(κ:Kp):aj (LP κ):=(Xr κ).ay aJ
theorem Y1(κ:Kp)(l:List AV)(i:Int)(es:List (Value×AV))(I:Nat->S->Prop)(n:Nat)(K:Exit->S->Prop):(vc (LP κ) 12 121 none 1 (af (Pr κ).toProgram 121 1) (sp 15 [(0, .mp 0),(6, .ad 9 l),(7, .int l.length),(8, .int i)] [.map 9 4 es]) (bH (LP κ) 121 1 1 I n K))=(
 letI z1:=i<(↑(l.length):Int)
 aD (decide z1) (a7 (decide ((0:Int)<=i)&&decide z1) (∃(e0:Nat),e0<n/\I e0 (sp 15 [(0,AV.mp 0),(6,AV.ad 9 l),(7,AV.int (↑(l.length):Int)),(8,
 AV.int (IntKind.wrap IntKind.i64 (i+(1:Int))))] [Dn.Obj.map 9 4 (eM es (Value.string (toStr (nth l i.toNat))) (AV.bool true))]))) (K (Exit.exit 0) (sp 15 []
 [Dn.Obj.map 9 4 es]))):=by kernel_rfl
abbrev NP(a:List AV×Int×List (Value×AV)):S:=sp 15 [(0, .mp 0),(6, .ad 9 a.1),(7, .int a.1.length),(8, .int a.2.1)] [.map 9 4 a.2.2]
def s8(a:List AV×Int×List (Value×AV)):Prop:=a.1.length<=aR/\0<=a.2.1/\a.2.1<=a.1.length
def yr(a:List AV×Int×List (Value×AV)):Out (Exit×S):= .one (.exit 0,sp 15 [] [.map 9 4 (fm a.2.2 (a.1.drop a.2.1.toNat))])
theorem l23(κ:Kp):bh (LP κ) 12 121 1 (aP 1 NP s8 yr):=by
 refine aL (fun a=>a.1.length - a.2.1.toNat) ?_
 rintro⟨l,i,es⟩ K ⟨h1,h2,h3⟩ ho
 simp only at h1 h2 h3
 rw[show(LP κ).P=Pr κ from rfl]
 refine Eq.mpr (Y1 κ l i es _ _ K) ?_
 simp only[aR] at h1
 simp only[ah,an,aa1,aa3,aa2]
 refine⟨fun hi=>⟨⟨h2,hi⟩,?_⟩,fun hi=>?_⟩
 ·rw[aW (n:=i+1) (by omega) (by omega)]
  refine⟨_,?_,(l,i+1,eM es (.string (toStr (nth l i.toNat))) (.lit (.bool true))),rfl,⟨by simpa[aR] using h1,by simp only;omega,by simp only;omega⟩,rfl,?_⟩
  ·simp only;omega
  ·simp only[yr,Out.run] at ho⊢
   rw[ab2 (show i.toNat<l.length by omega),fm,←bg l i.toNat (by omega)] at ho
   rw[show(i+1).toNat=i.toNat+1 by omega]
   exact ho
 ·simp only[yr,Out.run] at ho
  rw[aa9 (by omega)] at ho
  exact ho
noncomputable def IG(κ:Kp):Env:=(LP κ).ak 121 1 (aP 1 NP s8 yr)
theorem UA(κ:Kp):aB (IG κ):=(e31 κ).ak (W4 κ) (l23 κ)
theorem Th(κ:Kp):aj (IG κ):=(W4 κ).ak aF
theorem ZD(κ:Kp)(l:List AV)(es:List (Value×AV))(K:AV->List Dn.Obj->Prop):(a9 (IG κ) 12 121 [.mp 0, .ad 9 l] [.map 9 4 es] K)=(
 letI z1:=Pg.toProgram (Env.P (LP κ))
 af z1 121 1=af z1 121 1/\∃(e0:List AV×Int×List (Value×AV)),sp 15 [(0,AV.mp 0),(6,AV.ad 9 l),(7,AV.int (↑(l.length):Int)),(8,AV.int 0)]
 [Dn.Obj.map 9 4 es]=sp 15 [(0,AV.mp 0),(6,AV.ad 9 e0.1),(7,AV.int (↑(e0.1.length):Int)),(8,AV.int e0.2.1)] [Dn.Obj.map 9 4 e0.2.2]/\(e0.1.length<=
 9223372036854775807/\(0:Int)<=e0.2.1/\e0.2.1<=(↑(e0.1.length):Int))/\K (AV.ba []) [Dn.Obj.map 9 4 (fm e0.2.2 (List.drop e0.2.1.toNat e0.1))]):=by kernel_rfl
def MK(a:List AV×List (Value×AV)):List AV×List Dn.Obj:=([.mp 0, .ad 9 a.1],[.map 9 4 a.2])
def bj(a:List AV×List (Value×AV)):Prop:=a.1.length<=aR
def OS(a:List AV×List (Value×AV)):Out (AV×List Dn.Obj):= .one (.ba [],[.map 9 4 (fm a.2 a.1)])
theorem c23(κ:Kp):bq (IG κ) 12 121 (aM MK bj OS):=by
 refine aZ ?_
 rintro⟨l,es⟩ K h1 ho
 refine Eq.mpr (ZD κ l es K) ?_
 exact⟨rfl,(l,0,es),rfl,⟨h1,by simp only;omega,by simp only;omega⟩,ho⟩
noncomputable def LG(κ:Kp):Env:=(IG κ).ay 121 (aM MK bj OS)
theorem Y2(κ:Kp):aB (LG κ):=(UA κ).ay (Th κ) (c23 κ)
theorem Ym(κ:Kp):aj (LG κ):=(Th κ).ay aJ
theorem YR(κ:Kp)(l:List AV)(i:Int)(es:List (Value×AV))(I:Nat->S->Prop)(n:Nat)(K:Exit->S->Prop):(vc (LG κ) 12 190 none 2 (af (Pr κ).toProgram 190 2) (sp 19 [(0, .ad 9 l),(1, .bI 235 [.ptr 1 0 [] 0]),(7, .int l.length),(8, .int i)] [.map 9 4 es, .box 178 (.mp 0)]) (bH (LG κ) 190 2 2 I n K))=(
 letI z1:=i<(↑(l.length):Int)
 aD (decide z1) (a7 (decide ((0:Int)<=i)&&decide z1) (aD (!Dn.toBool (dh es (Value.string (toStr (nth l i.toNat))) (AV.bool false))) (K Exit.ret (sp 19 [(4,
 AV.int i)] [Dn.Obj.map 9 4 es,Obj.box 178 (AV.mp 0)])) (∃(e0:Nat),e0<n/\I e0 (sp 19 [(0,AV.ad 9 l),(1,AV.bI 235 [AV.ptr 1 0 [] 0]),(7,AV.int
 (↑(l.length):Int)),(8,AV.int (IntKind.wrap IntKind.i64 (i+(1:Int))))] [Dn.Obj.map 9 4 es,Obj.box 178 (AV.mp 0)])))) (K (Exit.exit 0) (sp 19 []
 [Dn.Obj.map 9 4 es,Obj.box 178 (AV.mp 0)]))):=by kernel_rfl
abbrev Iy(es:List (Value×AV)):List Dn.Obj:=[.map 9 4 es, .box 178 (.mp 0)]
abbrev Oh(a:List AV×Int×List (Value×AV)):S:=sp 19 [(0, .ad 9 a.1),(1, .bI 235 [.ptr 1 0 [] 0]),(7, .int a.1.length),(8, .int a.2.1)] (Iy a.2.2)
def yV(a:List AV×Int×List (Value×AV)):Out (Exit×S):=
 .aD (gi a.2.2 (a.1.drop a.2.1.toNat)) (.one (.exit 0,sp 19 [] (Iy a.2.2))) (.all (fun j:Int=>0<=j) fun j=> .one (.ret,sp 19 [(4, .int j)] (Iy a.2.2)))
theorem YN(κ:Kp):bh (LG κ) 12 190 2 (aP 2 Oh s8 yV):=by
 refine aL (fun a=>a.1.length - a.2.1.toNat) ?_
 rintro⟨l,i,es⟩ K ⟨h1,h2,h3⟩ ho
 simp only at h1 h2 h3
 rw[show(LG κ).P=Pr κ from rfl]
 refine Eq.mpr (YR κ l i es _ _ K) ?_
 simp only[aR] at h1
 simp only[yV,Out.run,ah] at ho
 simp only[ah,an,aa1,aa3,aa2,Bool.not_eq_true',ab3]
 refine⟨fun hi=>⟨⟨h2,hi⟩,?_⟩,fun hi=>?_⟩
 ·rw[ab2 (show i.toNat<l.length by omega),←bg l i.toNat (by omega)] at ho
  simp only[gi,List.all_cons] at ho
  refine⟨fun e=>?_,fun e=>?_⟩
  ·have e':lB es (toStr (nth l i.toNat))=false:=e
   exact ho.2 (by rw[e'];rfl) i h2
  ·have e':lB es (toStr (nth l i.toNat))=true:=e
   rw[e',ac0] at ho
   rw[aW (n:=i+1) (by omega) (by omega)]
   refine⟨_,?_,(l,i+1,es),rfl,⟨by simpa[aR] using h1,by simp only;omega,by simp only;omega⟩,rfl,?_⟩
   ·simp only;omega
   ·simp only[yV,Out.run,ah,show(i+1).toNat=i.toNat+1 by omega]
    exact ho
 ·rw[aa9 (by omega)] at ho
  exact ho.1 rfl
noncomputable def JF(κ:Kp):Env:=(LG κ).ak 190 2 (aP 2 Oh s8 yV)
theorem Vm(κ:Kp):aB (JF κ):=(Y2 κ).ak (Ym κ) (YN κ)
theorem R6(κ:Kp):aj (JF κ):=(Ym κ).ak aF
theorem y30(κ:Kp)(l:List AV)(es:List (Value×AV))(K:AV->List Dn.Obj->Prop):(a9 (JF κ) 12 181 [.mp 0, .ad 9 l] [.map 9 4 es] K)=(
 af (Pg.toProgram (Env.P (LG κ))) 190 2=af (Pg.toProgram (Env.P (LG κ))) 190 2/\∃(a:List AV×Int×List (Value×AV)),sp 19 [(0,AV.ad 9
 l),(1,AV.bI 235 [AV.ptr 1 0 [] 0]),(7,AV.int (↑(l.length):Int)),(8,AV.int 0)] [Dn.Obj.map 9 4 es,Obj.box 178 (AV.mp 0)]=sp 19 [(0,AV.ad 9 a.1),
 (1,AV.bI 235 [AV.ptr 1 0 [] 0]),(7,AV.int (↑(a.1.length):Int)),(8,AV.int a.2.1)] [Dn.Obj.map 9 4 a.2.2,Obj.box 178 (AV.mp 0)]/\(a.1.length<=
 9223372036854775807/\(0:Int)<=a.2.1/\a.2.1<=(↑(a.1.length):Int))/\aD (gi a.2.2 (List.drop a.2.1.toNat a.1)) (K (AV.bool true) [Dn.Obj.map 9 4
 a.2.2]) (∀(y:Int),(0:Int)<=y->K (AV.lit (Value.bool !decide (y>=(0:Int)))) [Dn.Obj.map 9 4 a.2.2])):=by kernel_rfl
def ID(a:List AV×List (Value×AV)):Out (AV×List Dn.Obj):= .one (.bool (gi a.2 a.1),[.map 9 4 a.2])
theorem c30(κ:Kp):bq (JF κ) 12 181 (aM MK bj ID):=by
 refine aZ ?_
 rintro⟨l,es⟩ K h1 ho
 refine Eq.mpr (y30 κ l es K) ?_
 refine⟨rfl,(l,0,es),rfl,⟨h1,by simp only;omega,by simp only;omega⟩,?_⟩
 simp only[ID,Out.run] at ho
 simp only[ab8,ab1]
 rw[ah]
 refine⟨fun e=>by rw[e] at ho;exact ho,fun e j hj=>?_⟩
 rw[e] at ho
 rw[aa7 (show j>=0 from hj)]
 exact ho
noncomputable def Nn(κ:Kp):Env:=(JF κ).ay 181 (aM MK bj ID)
theorem e30(κ:Kp):aB (Nn κ):=(Vm κ).ay (R6 κ) (c30 κ)
theorem W5(κ:Kp):aj (Nn κ):=(R6 κ).ay aJ
theorem x62(κ:Kp)(l:List AV)(i:Int)(vs:List ByteArray)(I:Nat->S->Prop)(n:Nat)(K:Exit->S->Prop):(vc (Nn κ) 12 264 none 0 (af (Pr κ).toProgram 264 3) (sp 23 [(3, .ar 0 0 vs.length),(7, .ad 56 l),(8, .int l.length),(9, .int i)] [.row 9 (strs vs)]) (bH (Nn κ) 264 3 0 I n K))=(
 letI z1:=nth l i.toNat
 letI z2:=IntKind.wrap IntKind.i64 (i+(1:Int))
 letI z3:=i<(↑(l.length):Int)
 aD (decide z3) (a7 (decide ((0:Int)<=i)&&decide z3) (aD (decide (toInt (ae z1 0)>=(5:Int))) (∃(e1:List AV),([AV.ad 56 [AV.agg [AV.int (toInt (ae z1
 0)),AV.str (toStr (ae z1 1)),AV.int (toInt (ae z1 2)),AV.ad 56 (ai (ae z1 3))]]],aI)=([AV.ad 56 e1],aI)/\bC e1/\a7 (decide ((vs.length+List.length
 (List.take (List.length (aw (aa e1))) (List.drop 0 (strs (aw (aa e1)))))+1)*17<=70368744177664)) (∃(e0:Nat),e0<n/\I e0 (sp 23 [(3,AV.ar 0 0
 (vs.length+List.length (List.take (List.length (aw (aa e1))) (List.drop 0 (strs (aw (aa e1))))))),(7,AV.ad 56 l),(8,AV.int (↑(l.length):Int)),(9,
 AV.int z2)] [Obj.row 9 (List.take vs.length (strs vs)++List.take (List.length (aw (aa e1))) (List.drop 0 (strs (aw (aa e1)))))]))) (∃(e0:Nat),e0<n/\I
 e0 (sp 23 [(3,AV.ar 0 0 vs.length),(7,AV.ad 56 l),(8,AV.int (↑(l.length):Int)),(9,AV.int z2)] [Obj.row 9 (strs vs)])))) (K (Exit.exit 0) (sp 23 [(3,
 AV.ar 0 0 vs.length)] [Obj.row 9 (strs vs)]))):=by kernel_rfl
abbrev K4(a:List AV×Int×List ByteArray):S:=sp 23 [(3, .ar 0 0 a.2.2.length),(7, .ad 56 a.1),(8, .int a.1.length),(9, .int a.2.1)] [.row 9 (strs a.2.2)]
def EI(a:List AV×Int×List ByteArray):Prop:=a.1.length<=aR/\0<=a.2.1/\a.2.1<=a.1.length/\a.2.2.length+aX (aa (a.1.drop a.2.1.toNat))<=100000
def tt(a:List AV×Int×List ByteArray):Out (Exit×S):= .one (.exit 0,sp 23 [(3, .ar 0 0 (a.2.2++dG (aa (a.1.drop a.2.1.toNat))).length)] [.row 9 (strs (a.2.2++dG (aa (a.1.drop a.2.1.toNat))))])
theorem l62(κ:Kp):bh (Nn κ) 12 264 3 (aP 0 K4 EI tt):=by
 refine aL (fun a=>a.1.length - a.2.1.toNat) ?_
 rintro⟨l,i,vs⟩ K ⟨h1,h2,h3,h5⟩ ho
 simp only at h1 h2 h3 h5
 rw[show(Nn κ).P=Pr κ from rfl]
 refine Eq.mpr (x62 κ l i vs _ _ K) ?_
 simp only[ab1,cQ]
 simp only[aR] at h1
 simp only[ah,an,aa1,aa3,aa2]
 refine⟨fun hi=>⟨⟨h2,hi⟩,?_⟩,fun hi=>?_⟩
 ·have hv:=KI l i.toNat (by omega)
  have hc:aX (aa (l.drop i.toNat))=aX [cM (nth l i.toNat)]+aX (aa (l.drop (i.toNat+1))):=by
   rw[eu l i.toNat (by omega)];simp only[aX,Nat.add_zero]
  have hle:=cr [cM (nth l i.toNat)]
  have ht:aa [.agg [.int (toInt (ae (nth l i.toNat) 0)), .lit (.string (toStr (ae (nth l i.toNat) 1))), .int (toInt (ae (nth l i.toNat) 2)), .ad 56 (ai (ae (nth l i.toNat) 3))]]=[cM (nth l i.toNat)]:=by
   simp only[aa,ac1,ac2]
   rw[nU,←da]
  rw[aW (n:=i+1) (by omega) (by omega)]
  refine⟨fun e1=>⟨_,rfl,?_,?_,_,?_,(l,i+1,vs++aw [cM (nth l i.toNat)]),?_,⟨by simpa[aR] using h1,by simp only;omega,by simp only;omega,?_⟩,rfl,?_⟩,fun e1=>⟨_,?_,(l,i+1,vs),rfl,⟨by simpa[aR] using h1,by simp only;omega,by simp only;omega,?_⟩,rfl,?_⟩⟩
  ·simp only[bC,ht];omega
  ·rw[ht,aU];omega
  ·simp only;omega
  ·rw[ht];simp only[K4,gR,aU,ab9]
  ·simp only[show(i+1).toNat=i.toNat+1 by omega,ab9];omega
  ·simp only[tt,Out.run,show(i+1).toNat=i.toNat+1 by omega] at ho⊢
   rw[hv,aa7 (show 5<=toInt (ae (nth l i.toNat) 0) from e1)] at ho
   simpa[List.append_assoc] using ho
  ·simp only;omega
  ·simp only[show(i+1).toNat=i.toNat+1 by omega];omega
  ·simp only[tt,Out.run,show(i+1).toNat=i.toNat+1 by omega] at ho⊢
   rw[hv,aa5 (show ¬ 5<=toInt (ae (nth l i.toNat) 0) from e1)] at ho
   simpa[List.append_assoc] using ho
 ·simp only[tt,Out.run] at ho
  rw[aa9 (by omega)] at ho
  simpa[aa,dG] using ho
noncomputable def KF(κ:Kp):Env:=(Nn κ).ak 264 3 (aP 0 K4 EI tt)
theorem VZ(κ:Kp):aB (KF κ):=(e30 κ).ak (W5 κ) (l62 κ)
theorem SR(κ:Kp):aj (KF κ):=(W5 κ).ak aF
theorem y62(κ:Kp)(s:ByteArray)(l:List AV)(K:AV->List Dn.Obj->Prop):(a9 (KF κ) 12 264 [.agg [.lit (.string s), .ad 56 l]] [] K)=(
 af (Pg.toProgram (Env.P (Nn κ))) 264 3=af (Pg.toProgram (Env.P (Nn κ))) 264 3/\∃(a:List AV×Int×List ByteArray),sp 23 [(3,AV.ar 0 0 0),
 (7,AV.ad 56 l),(8,AV.int (↑(l.length):Int)),(9,AV.int 0)] [Obj.row 9 []]=sp 23 [(3,AV.ar 0 0 (List.length a.2.2)),(7,AV.ad 56 a.1),(8,AV.int
 (↑(a.1.length):Int)),(9,AV.int a.2.1)] [Obj.row 9 (strs a.2.2)]/\(a.1.length<=9223372036854775807/\(0:Int)<=a.2.1/\a.2.1<=(↑(a.1.length):Int)/\
 List.length a.2.2+aX (aa (List.drop a.2.1.toNat a.1))<=100000)/\K (AV.ar 0 0 (List.length (a.2.2++dG (aa (List.drop a.2.1.toNat a.1)))))
 [Obj.row 9 (strs (a.2.2++dG (aa (List.drop a.2.1.toNat a.1))))]):=by kernel_rfl
def S4(a:ByteArray×List AV):List AV×List Dn.Obj:=([.agg [.lit (.string a.1), .ad 56 a.2]],[])
def jI(a:ByteArray×List AV):Prop:=aX (aa a.2)<=100000
def Oy(a:ByteArray×List AV):Out (AV×List Dn.Obj):= .one (.ar 0 0 (dG (aa a.2)).length,[.row 9 (strs (dG (aa a.2)))])
theorem YK(κ:Kp):bq (KF κ) 12 264 (aM S4 jI Oy):=by
 refine aZ ?_
 rintro⟨s,l⟩ K h1 ho
 simp only[jI] at h1
 refine Eq.mpr (y62 κ s l K) ?_
 have:=fk (aa l)
 rw[eC] at this
 refine⟨rfl,(l,0,[]),rfl,⟨by simp only;omega,by simp only;omega,by simp only;omega,?_⟩,?_⟩
 ·simp only[ab8,ab1,List.length_nil];omega
 ·simp only[ab8,ab1,List.nil_append]
  exact ho
noncomputable def Rm(κ:Kp):Env:=(KF κ).ay 264 (aM S4 jI Oy)
theorem Yx(κ:Kp):aB (Rm κ):=(VZ κ).ay (SR κ) (YK κ)
theorem XO(κ:Kp):aj (Rm κ):=(SR κ).ay aJ
structure LA where
 op:Int
 s:ByteArray
 l:List AV
 o1:Int
 s1:ByteArray
 n1:Int
 l1:List AV
 o2:Int
 s2:ByteArray
 n2:Int
 l2:List AV
abbrev LA.av(a:LA):AV:= .agg [.int a.op, .agg [.lit (.string a.s), .ad 56 a.l], .agg [.int a.o1, .lit (.string a.s1), .int a.n1, .ad 56 a.l1], .agg [.int a.o2, .lit (.string a.s2), .int a.n2, .ad 56 a.l2]]
theorem ZV(κ:Kp)(a:LA)(K:AV->List Dn.Obj->Prop):(a9 (Rm κ) 12 119 [a.av] [] K)=(
 K (AV.bool (decide (a.op>=(7:Int)))) []):=by kernel_rfl
def Wx:List AV->Option (Bool×AV)
 |[.agg [.lit (.int .i64 op), .agg [.lit (.string _), .ad 56 _], .agg [.lit (.int .i64 _), .lit (.string _), .lit (.int .i64 _), .ad 56 _], .agg [.lit (.int .i64 _), .lit (.string _), .lit (.int .i64 _), .ad 56 _]]]=>some (true, .bool (decide (7<=op)))
 |_=>none
theorem p21(κ:Kp):c9 (Rm κ) 12 119 Wx:=by
 intro args x hh
 unfold Wx at hh
 split at hh
 ·rename_i op s l o1 s1 n1 l1 o2 s2 n2 l2
  simp only[aa4,ab0,true_and] at hh
  subst hh
  exact⟨_,rfl,rfl,Eq.mpr (ZV κ ⟨op,s,l,o1,s1,n1,l1,o2,s2,n2,l2⟩ _) rfl⟩
 ·cases hh
noncomputable def RR(κ:Kp):Env:=(Rm κ).aH 119 Wx
theorem e21(κ:Kp):aB (RR κ):=(Yx κ).aH (XO κ) (p21 κ)
theorem WQ(κ:Kp):aj (RR κ):=(XO κ).aH
theorem y40(κ:Kp)(a:LA)(K:AV->List Dn.Obj->Prop):(a9 (RR κ) 12 189 [a.av] [] K)=(
 letI z1:=∃(e1:List AV),([AV.ad 56 [AV.agg [AV.int a.o1,AV.str a.s1,AV.int a.n1,AV.ad 56 a.l1],AV.agg [AV.int a.o2,AV.str a.s2,AV.int a.n2,AV.ad 56
  a.l2]]],aI)=([AV.ad 56 e1],aI)/\bC e1/\∃(e0:List AV),([AV.ad 56 a.l],aI)=([AV.ad 56 e0],aI)/\bC e0/\a7 (decide ((List.length (aw (aa e1))+
  List.length (List.take (List.length (aw (aa e0))) (List.drop 0 (strs (aw (aa e0)))))+1)*17<=70368744177664)) (K (AV.ar 0 0 (List.length (aw (aa e1))+
  List.length (List.take (List.length (aw (aa e0))) (List.drop 0 (strs (aw (aa e0))))))) [Obj.row 9 (List.take (List.length (aw (aa e1))) (strs (aw (aa e1)))++
  List.take (List.length (aw (aa e0))) (List.drop 0 (strs (aw (aa e0)))))])
 (z1/\z1/\z1/\z1)/\(z1/\z1/\z1)/\(z1/\z1)/\z1):=by kernel_rfl
def LA.lt(a:LA):Lt:=⟨a.op,⟨a.s,aa a.l⟩, .mk a.o1 a.s1 a.n1 (aa a.l1), .mk a.o2 a.s2 a.n2 (aa a.l2)⟩
def SO(a:LA):List AV×List Dn.Obj:=([a.av],[])
def fQ(a:LA):Prop:=iJ a.lt<=100000
def KU(a:LA):Out (AV×List Dn.Obj):= .one (.ar 0 0 (eb a.lt).length,[.row 9 (strs (eb a.lt))])
theorem c40(κ:Kp):bq (RR κ) 12 189 (aM SO fQ KU):=by
 refine aZ ?_
 rintro a K h1 ho
 refine Eq.mpr (y40 κ a K) ?_
 simp only[and_self]
 simp only[fQ,iJ,LA.lt] at h1
 have ht:aa [.agg [.int a.o1, .lit (.string a.s1), .int a.n1, .ad 56 a.l1], .agg [.int a.o2, .lit (.string a.s2), .int a.n2, .ad 56 a.l2]]=[.mk a.o1 a.s1 a.n1 (aa a.l1), .mk a.o2 a.s2 a.n2 (aa a.l2)]:=by
  simp only[aa,ac1,ac2]
  rw[nU,nU];rfl
 have e1:=cr (aa a.l)
 have e2:=cr [.mk a.o1 a.s1 a.n1 (aa a.l1), .mk a.o2 a.s2 a.n2 (aa a.l2)]
 refine⟨_,rfl,?_,_,rfl,?_,?_⟩
 ·simp only[bC,ht];omega
 ·simp only[bC];omega
 ·simp only[ab1,cQ,ht,aU]
  rw[an,aa1]
  refine⟨by omega,?_⟩
  simp only[KU,Out.run,eb,LA.lt,gR,ab9] at ho
  exact ho
noncomputable def RX(κ:Kp):Env:=(RR κ).ay 189 (aM SO fQ KU)
theorem e40(κ:Kp):aB (RX κ):=(e21 κ).ay (WQ κ) (c40 κ)
theorem XI(κ:Kp):aj (RX κ):=(WQ κ).ay aJ
structure TA where
 o1:Int
 s1:ByteArray
 n1:Int
 l1:List AV
 o2:Int
 s2:ByteArray
 n2:Int
 l2:List AV
 es:List (Value×AV)
theorem y20(κ:Kp)(a:TA)(K:AV->List Dn.Obj->Prop):(a9 (RX κ) 12 118 [.mp 0, .agg [.int a.o1, .lit (.string a.s1), .int a.n1, .ad 56 a.l1], .agg [.int a.o2, .lit (.string a.s2), .int a.n2, .ad 56 a.l2]] [.map 9 4 a.es] K)=(
 letI z1:=K (AV.bool false) [Dn.Obj.map 9 4 a.es]
 aD (a.o1==(1:Int)) (aD (!Dn.toBool (dh a.es (Value.string a.s1) (AV.bool false))) (∃(e1:List AV),([AV.ad 56 [AV.agg [AV.int a.o2,AV.str a.s2,AV.int
 a.n2,AV.ad 56 a.l2]]],aI)=([AV.ad 56 e1],aI)/\bC e1/\∃(e0:List AV×List (Value×AV)),([AV.mp 0,AV.ad 9 (List.take (List.length (aw (aa e1)))
 (List.drop 0 (strs (aw (aa e1)))))],[Dn.Obj.map 9 4 a.es])=([AV.mp 0,AV.ad 9 e0.1],[Dn.Obj.map 9 4 e0.2])/\bj e0/\K (AV.bool (gi e0.2 e0.1)) [Dn.Obj.map
 9 4 e0.2]) z1) z1):=by kernel_rfl
def TA.x(a:TA):Tm:= .mk a.o1 a.s1 a.n1 (aa a.l1)
def TA.y(a:TA):Tm:= .mk a.o2 a.s2 a.n2 (aa a.l2)
def Rf(a:TA):List AV×List Dn.Obj:=([.mp 0, .agg [.int a.o1, .lit (.string a.s1), .int a.n1, .ad 56 a.l1], .agg [.int a.o2, .lit (.string a.s2), .int a.n2, .ad 56 a.l2]],[.map 9 4 a.es])
def iB(a:TA):Prop:=aX [a.y]<=100000
def N8(a:TA):Out (AV×List Dn.Obj):= .one (.bool (lz a.es a.x a.y),[.map 9 4 a.es])
theorem c20(κ:Kp):bq (RX κ) 12 118 (aM Rf iB N8):=by
 refine aZ ?_
 rintro a K h1 ho
 refine Eq.mpr (y20 κ a K) ?_
 have ht:aa [.agg [.int a.o2, .lit (.string a.s2), .int a.n2, .ad 56 a.l2]]=[a.y]:=by
  simp only[aa,ac1,ac2]
  rw[nU];rfl
 have hle:=cr [a.y]
 have ho':K (.bool (decide (a.o1=1)&&(!lB a.es a.s1&&gi a.es (strs (aw [a.y]))))) [.map 9 4 a.es]:=ho
 simp only[iB] at h1
 simp only[ah,beq_iff_eq,beq_eq_false_iff_ne,Bool.not_eq_true',ab3]
 refine⟨fun e1=>⟨fun e2=>?_,fun e2=>?_⟩,fun e1=>?_⟩
 ·have e2':lB a.es a.s1=false:=e2
  rw[aa7 e1,e2'] at ho'
  refine⟨_,rfl,by simp only[bC,ht];exact h1,(strs (aw [a.y]),a.es),?_,?_,ho'⟩
  ·simp only[ab1,cQ,ht]
  ·simp only[bj,aU,aR];omega
 ·have e2':lB a.es a.s1=true:=e2
  rw[aa7 e1,e2'] at ho'
  exact ho'
 ·rw[aa5 e1] at ho'
  exact ho'
noncomputable def Ua(κ:Kp):Env:=(RX κ).ay 118 (aM Rf iB N8)
theorem TX(κ:Kp):aB (Ua κ):=(e40 κ).ay (XI κ) (c20 κ)
theorem XG(κ:Kp):aj (Ua κ):=(XI κ).ay aJ
end Go.Proofs.YthaiinlfnommnaaGreatDoor
