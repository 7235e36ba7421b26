import Derived.Test.YthaiinlfnommnaaGreatDoorDbM1
import Derived.Test.YthaiinlfnommnaaGreatDoorProg
import Derived.Test.YthaiinlfnommnaaGreatDoorChecked
import Derived.WalkKit
import Derived.LaidEql
import Derived.Stop.Asserts
import Derived.RowKitTokens
namespace Go.Proofs.YthaiinlfnommnaaGreatDoor
open Go Go.Dn Go.Rl Go.Proofs
attribute [local irreducible] a8 vc
set_option maxRecDepth 20000
def Ut:List (Nat×List (Nat×List (Nat×Option Nat))):=[
 (4,[(9,[(3,none),(4,none),(6,none),(9,none)]),(10002,[(3,none)]),(10001,[(2,none)])]),
 (5,[(11,[(5,none),(6,none),(8,none),(10,none),(11,none),(12,none),(13,none)]),(12002,[(5,none),(11,none),(12,none)]),(12001,[(4,none)])]),
 (7,[(17,[(1,none),(2,none),(5,none),(6,none),(8,none),(10,none),(11,none),(12,none)]),(18004,[(1,none),(2,none),(5,none),(6,none),(8,none)]),(18001,[(4,none)]),(8,[(1,none),(2,none),(5,none),(6,none),(8,none)]),(9002,[(1,none),(2,none),(5,none),(6,none)]),(9001,[(4,none)])]),
 (8,[(18,[(1,none),(3,none),(4,none),(6,none),(7,none),(8,none),(9,none),(10,none),(11,none)]),(19006,[(1,none),(3,none),(4,none),(6,none),(7,none),(8,none),(9,none)]),(19001,[(2,none)]),(14,[(1,none),(3,none),(4,none),(6,none),(7,none),(8,none),(9,none)]),(15004,[(1,none),(3,none),(4,none),(6,none),(7,none)]),(15001,[(2,none)]),(9,[(1,none),(3,none),(4,none),(6,some 3),(7,none)]),(10002,[(1,none),(3,none),(6,none)]),(10001,[(2,none)])]),
 (9,[(23,[(3,none),(4,none),(6,none),(11,none)]),(24008,[(3,none),(4,none),(6,none)]),(24001,[(2,none)]),(16,[(3,none),(4,none),(6,none),(7,none),(8,none),(9,none),(10,none)]),(17006,[(3,none),(4,none),(6,none),(7,none),(8,none)]),(17001,[(2,none)]),(11,[(3,none),(4,none),(6,none),(7,none)]),(12004,[(3,none),(4,none),(6,none)]),(12001,[(2,none)]),(8,[(3,none),(4,none),(6,none)]),(9002,[(3,none)]),(9001,[(2,none)])]),
 (11,[(22,[(1,none),(8,none),(9,none),(10,none)]),(23008,[(1,none),(8,none),(9,none)]),(23001,[(4,none)]),(16,[(1,none),(8,none),(9,none)]),(17006,[]),(17001,[(4,none)]),(8,[(1,none),(2,none),(5,none),(6,none),(7,none)]),(9004,[(1,none),(2,none),(5,none),(6,none)]),(4,[(1,none),(2,none),(5,none)]),(5002,[(1,none)]),(5001,[(4,none)])]),
 (12,[(6,[(1,none),(7,some 41),(19,none),(20,none),(21,none)]),(7002,[(7,none)])]),
 (13,[(11,[(1,none),(4,none),(7,none),(8,none),(9,none),(10,none),(11,none)]),(12004,[(1,none),(4,none),(7,none),(8,none),(9,none),(10,none)]),(7,[(1,none),(4,none),(7,none),(8,some 41),(9,none)]),(8002,[(8,none)])]),
 (14,[(4,[(0,none),(1,none),(5,none)]),(5002,[]),(5001,[(4,none)])]),
 (15,[(15,[(7,none),(10,none),(11,none),(13,none),(49,none),(50,none),(51,none)]),(16004,[(7,none),(10,none),(11,none),(13,none)]),(11,[(7,none),(10,some 38),(11,none),(12,none)]),(12002,[(10,none)])]),
 (16,[(4,[(0,none),(1,none),(5,none)]),(5002,[]),(5001,[(4,none)])]),
 (19,[(3,[(0,none),(3,none),(5,none),(6,none)]),(4002,[(5,none)])]),
 (20,[(2,[(0,none),(1,none),(5,none)]),(3002,[]),(3001,[(4,none)])]),
 (24,[(3,[(3,some 3),(7,none),(8,none),(9,none)]),(4002,[(3,none)])]),
 (26,[(8,[(1,none),(3,none),(5,none)]),(9004,[(1,none),(3,none)]),(3,[(1,none),(3,none),(4,none)]),(4002,[(1,none),(3,none)]),(4001,[(2,none)])]),
 (27,[(2,[(0,none),(3,none)]),(3002,[]),(3001,[(2,none)])]),
 (28,[(3,[(1,none),(2,none),(4,none),(5,none),(17,none),(18,none),(19,none)]),(4002,[(4,none),(5,none)])]),
 (29,[(25,[(7,none),(14,none),(15,none),(18,none),(19,none)]),(26006,[(7,none),(14,none),(15,none),(18,none)]),(19,[(7,none),(14,some 38),(15,none),(16,none)]),(20004,[(14,none)]),(6,[(1,none),(7,none),(8,none)]),(7002,[(7,none)]),(7001,[(2,none),(3,none),(4,none)])]),
 (30,[(19,[(3,none),(4,none),(8,none),(9,none),(10,none)]),(20010,[(3,none),(4,none),(8,none),(9,none)]),(16,[(3,none),(4,none),(8,none),(9,none)]),(17008,[(3,none),(4,none),(8,none)]),(13,[(3,none),(4,none),(8,none)]),(14006,[(4,none)]),(8,[(1,none),(3,none),(4,none),(5,none),(6,none),(7,none)]),(9004,[(1,none),(3,none),(4,none),(5,none),(6,none)]),(4,[(1,none),(3,none),(4,some 59),(5,none)]),(5002,[(3,none),(4,none)])]),
 (31,[(2,[(0,none),(1,none),(6,none)]),(3002,[]),(3001,[(4,none),(5,none)])]),
 (32,[(5,[(2,none),(3,none),(4,none),(7,none),(8,none),(10,none)]),(6002,[(4,none),(7,none)])]),
 (33,[(3,[(1,none),(3,none),(5,none),(7,none),(9,none)]),(4002,[]),(4001,[(6,none)])]),
 (34,[(3,[(1,none),(2,none),(5,some 45),(6,none)]),(4002,[(5,none)])]),
 (35,[(4,[(0,none),(1,none),(5,none)]),(5002,[]),(5001,[(4,none)])]),
 (36,[(5,[(20,none),(21,none),(22,none)]),(6002,[]),(6001,[(2,none),(3,none)])]),
 (37,[(8,[(3,none),(45,none),(46,none)]),(9004,[(3,none)])]),
 (38,[(2,[(0,none),(3,none),(11,none),(12,none),(13,none)]),(3002,[]),(3001,[(4,none),(5,none)])]),
 (39,[(6,[(0,none),(1,none),(5,none),(11,none),(12,none),(25,none)]),(7004,[(5,none)]),(7003,[(0,none),(1,none),(11,none),(12,none)]),(2,[(0,none),(1,none),(11,none),(12,none)]),(3002,[]),(3001,[(4,none)])]),
 (40,[(3,[(0,none),(1,none),(5,some 3),(11,none),(12,none)]),(4002,[(5,none)])]),
 (41,[(5,[(2,none),(3,none),(4,none),(7,none),(35,none),(36,none),(37,none)]),(6002,[(4,none),(7,none)])]),
 (45,[(5,[(2,none),(3,none),(6,none)]),(6002,[]),(6001,[(4,none)])]),
 (48,[(9,[(0,none),(1,none),(5,none),(6,none)]),(10004,[(0,none),(1,none),(5,none)]),(10001,[(4,none)]),(4,[(0,none),(1,none),(5,none)]),(5002,[]),(5001,[(4,none)])]),
 (49,[(5,[(1,none),(6,none)]),(6002,[]),(6001,[(2,none),(3,none)])]),
 (52,[(9,[(0,none),(3,none),(4,none),(5,none)]),(10004,[(0,none),(3,none)]),(4,[(0,none),(3,none)]),(5002,[(0,none)]),(5001,[(2,none)])]),
 (54,[(2,[(0,none),(3,none)]),(3002,[]),(3001,[(2,none)])]),
 (55,[(3,[(1,none),(2,none),(5,none)]),(4002,[(1,none)])]),
 (60,[(3,[(1,none),(3,none),(5,none),(7,none),(9,none)]),(4002,[]),(4001,[(6,none)])]),
 (61,[(5,[(1,none),(4,none),(6,none)]),(6002,[]),(6001,[(2,none),(3,none)])]),
 (62,[(2,[(0,none),(1,none),(2,none),(7,none)]),(3002,[]),(3001,[(6,none)])]),
 (63,[(3,[(0,none),(1,none),(5,some 3),(6,none)]),(4002,[(5,none)])]),
 (64,[(2,[(1,none),(2,none),(3,none),(7,none)]),(3002,[]),(3001,[(6,none)])]),
 (66,[(10,[(9,none),(11,some 9),(12,none),(13,none)]),(11002,[(11,none)])]),
 (69,[(11,[(1,none),(38,none),(39,none),(40,none)]),(12004,[]),(12001,[(2,none),(3,none)]),(4,[(1,none),(16,none),(17,none),(18,none)]),(5002,[(1,none)]),(5001,[(2,none),(3,none)])]),
 (72,[(3,[(0,none),(5,none),(6,some 3)]),(4002,[(5,none)])]),
 (76,[(3,[(3,some 56),(6,none),(7,none),(8,none)]),(4002,[(3,none)])]),
 (77,[(8,[(2,none),(8,none),(32,none),(33,none),(34,none)]),(9003,[(2,none),(8,none)])]),
 (81,[(4,[(0,none),(1,none),(5,none)]),(5002,[]),(5001,[(4,none)])]),
 (85,[(4,[(2,none),(18,none),(19,none),(20,none)]),(5002,[]),(5001,[(4,none)])]),
 (87,[(4,[(2,none),(3,none),(6,some 96),(26,none),(27,none),(28,none)]),(5002,[(3,none),(6,none)])]),
 (89,[(11,[(1,none),(8,none)]),(12004,[]),(12001,[(2,none),(3,none)]),(5,[(1,none),(5,none)]),(6002,[(1,none)]),(6001,[(2,none),(3,none)])]),
 (90,[(2,[(0,none),(1,none),(2,none),(3,none),(8,none),(9,none)]),(3001,[])]),
 (93,[(4,[(1,none),(2,none),(5,none)]),(5002,[(1,none)])]),
 (94,[(5,[(1,none),(2,none),(5,none)]),(6002,[(1,none)])]),
 (95,[(2,[(0,none),(1,none),(7,none),(8,none)]),(3002,[]),(3001,[(4,none)])]),
 (97,[(2,[(0,none),(1,none),(7,none),(8,none)]),(3002,[]),(3001,[(4,none)])]),
 (98,[(1,[(0,none),(1,none),(2,none),(7,none),(8,none),(9,none)]),(2002,[]),(2001,[])]),
 (99,[(4,[(1,none),(2,none),(7,none),(8,some 3),(9,some 1000000009)]),(5002,[(8,none),(9,none)]),(5001,[(4,none),(5,none),(6,none)])]),
 (101,[(2,[(1,none),(2,none),(5,none)]),(3002,[]),(3001,[(4,none)])]),
 (102,[(11,[(1,none),(6,none)]),(12004,[]),(12001,[(2,none)]),(5,[(1,none),(4,none)]),(6002,[(1,none)]),(6001,[(2,none)])]),
 (103,[(2,[(0,none),(1,none),(5,none)]),(3002,[]),(3001,[(4,none)])]),
 (104,[(3,[(1,none),(3,some 1000000009),(4,none)]),(4002,[(3,none)])]),
 (105,[(6,[(1,none),(4,some 1000000009),(5,none)]),(7002,[(4,none)])]),
 (108,[(2,[(1,none),(3,none),(5,none),(6,none),(7,none)]),(3002,[(5,none),(6,none)])]),
 (110,[(11,[(6,none),(8,some 3),(36,none),(37,none),(38,none)]),(12004,[(8,none)]),(12001,[(4,none),(5,none)]),(4,[(3,none),(6,none)]),(5002,[(3,none),(6,none)]),(5001,[(4,none),(5,none)])]),
 (114,[(5,[(0,none),(1,none),(5,none),(12,none),(13,none),(14,none),(28,none),(29,none),(30,none)]),(6004,[(0,none),(1,none),(12,none),(13,none),(14,none)]),(6001,[]),(1,[(0,none),(1,none),(12,none),(13,none),(14,none)]),(2002,[]),(2001,[])]),
 (121,[(1,[(0,none),(6,none),(7,none),(8,none)]),(2002,[])]),
 (123,[(5,[(0,none),(1,none),(5,none),(6,none)]),(6002,[(0,none),(5,none)])]),
 (128,[(2,[(0,none),(1,none),(7,none),(8,none)]),(3002,[]),(3001,[(4,none)])]),
 (129,[(4,[(2,none),(3,none),(5,none)]),(5002,[]),(5001,[(4,none)])]),
 (130,[(4,[(0,none),(1,none),(5,none)]),(5002,[]),(5001,[(4,none)])]),
 (133,[(4,[(1,none),(2,none),(15,none),(16,none),(17,none)]),(5002,[]),(5001,[(6,none)])]),
 (135,[(4,[(1,none),(2,none),(15,none),(16,none),(17,none)]),(5002,[]),(5001,[(6,none)])]),
 (137,[(7,[(1,none),(2,none),(9,none),(10,none),(11,none),(21,none),(22,none),(23,none)]),(8004,[(1,none),(2,none),(9,none),(10,none),(11,none)]),(8001,[(4,none)]),(2,[(1,none),(2,none),(9,none),(10,none),(11,none)]),(3002,[(1,none)]),(3001,[(4,none)])]),
 (147,[(3,[(3,some 75),(6,none),(7,none),(8,none)]),(4002,[(3,none)])]),
 (148,[(9,[(0,none),(1,none),(5,none),(6,none),(7,none)]),(10004,[(0,none),(5,none)]),(4,[(0,none),(1,none),(5,none)]),(5002,[(0,none)]),(5001,[(4,none)])]),
 (150,[(10,[(1,none),(5,none)]),(11004,[]),(11001,[(2,none)]),(4,[(1,none),(3,none)]),(5002,[(1,none)]),(5001,[(2,none)])]),
 (151,[(23,[(0,none),(3,none),(9,none),(10,none),(14,none)]),(24008,[(0,none),(3,none),(9,none),(10,none)]),(24001,[(4,none),(5,none)]),(18,[(0,none),(3,none),(9,none),(10,none),(11,none),(12,none)]),(19006,[(0,none),(3,none),(9,none),(10,none),(11,none)]),(15,[(0,none),(3,none),(9,none),(10,none),(11,none)]),(16004,[(0,none),(3,none),(9,none),(10,none)]),(6,[(0,none),(3,none),(7,none),(8,none)]),(7002,[(0,none),(3,none),(7,none)])]),
 (152,[(4,[(0,none),(1,none),(2,none),(6,none),(7,none)]),(5004,[(0,none),(1,none),(2,none),(6,none)]),(1,[(0,none),(1,none),(2,none),(6,none)]),(2002,[])]),
 (153,[(8,[(0,none),(6,none),(7,none),(10,none)]),(9004,[]),(4,[(0,none),(6,none),(7,none),(8,none),(9,none)]),(5002,[(0,none),(6,none),(7,none),(8,none)])]),
 (154,[(5,[(0,none),(1,none),(6,none),(7,none),(8,none),(9,none)]),(6002,[])]),
 (156,[(2,[(0,none),(6,none),(7,none)]),(3002,[])]),
 (157,[(20,[(0,none),(1,none),(2,none),(7,none),(8,none),(10,none)]),(21008,[(0,none),(1,none),(2,none),(7,none),(8,none)]),(14,[(0,none),(1,none),(2,none),(7,none),(8,none),(9,none)]),(15006,[(0,none),(1,none),(2,none),(7,none),(8,none)]),(5,[(0,none),(1,none),(2,none),(7,none),(8,none)]),(6004,[(0,none),(1,none),(2,none),(7,none),(8,none)]),(3,[(0,none),(1,none),(2,none),(7,none),(8,none)]),(4002,[]),(4001,[(6,none)])]),
 (159,[(5,[(0,none),(1,none),(9,none),(10,none)]),(6006,[(0,none),(1,none),(9,none),(10,none)]),(4004,[(0,none),(1,none),(9,none),(10,none)]),(3,[(0,none),(1,none),(9,none),(10,none)]),(4002,[(9,none)])]),
 (160,[(15,[(0,none),(1,none),(10,none),(11,none)]),(16010,[(0,none),(1,none),(10,none),(11,none)]),(14008,[(0,none),(1,none),(10,none),(11,none)]),(13,[(0,none),(1,none),(10,none),(11,none)]),(14006,[(0,none),(1,none),(11,none)]),(5,[(0,none),(1,none),(10,none),(11,none)]),(6004,[(0,none),(1,none),(10,none),(11,none)]),(3,[(0,none),(1,none),(10,none),(11,none)]),(4002,[(0,none),(1,none),(10,none),(11,none)])]),
 (163,[(5,[(1,none),(2,none),(3,none),(7,none),(8,none)]),(6004,[(1,none),(2,none),(3,none),(7,none)]),(6001,[(6,none)]),(2,[(1,none),(2,none),(3,none),(7,none)]),(3002,[]),(3001,[(6,none)])]),
 (164,[(3,[(1,none),(5,some 9),(6,none)]),(4002,[(5,none)])]),
 (166,[(5,[(1,none),(3,some 1000000009),(4,none)]),(6002,[(3,none)])]),
 (168,[(5,[(1,none),(4,none)]),(6002,[]),(6001,[(2,none)])]),
 (171,[(3,[(1,none),(5,some 9),(6,none)]),(4002,[(5,none)])]),
 (173,[(2,[(0,none),(1,none),(5,none)]),(3002,[]),(3001,[(4,none)])]),
 (176,[(4,[(1,none),(31,none),(32,none),(33,none)]),(5002,[]),(5001,[(2,none)])]),
 (178,[(3,[(0,none),(5,none),(14,none),(15,none),(16,none)]),(4002,[(5,none)]),(4001,[(4,none)])]),
 (182,[(3,[(3,some 9),(6,none),(7,none),(8,none)]),(4002,[(3,none)])]),
 (183,[(12,[(6,none),(26,none),(27,none),(28,none)]),(13004,[(6,none)]),(3,[(0,none),(3,none),(9,none),(10,none),(11,none)]),(4002,[(0,none),(3,none)])]),
 (185,[(17,[(1,none),(2,none),(43,none),(44,none),(45,none)]),(18005,[]),(18001,[(6,none)]),(1,[(0,none),(1,none),(2,none)]),(2001,[(6,none)])]),
 (186,[(3,[(0,none),(1,none),(3,none),(4,none),(13,none),(14,none)]),(4002,[]),(4001,[])]),
 (187,[(3,[(1,none),(2,none),(3,none),(7,none),(11,none),(12,none),(13,none)]),(4002,[(7,none)]),(4001,[(6,none)])]),
 (188,[(4,[(1,none),(2,none),(5,none),(17,none),(18,none),(19,none)]),(5002,[(1,none),(2,none),(5,none)])]),
 (190,[(2,[(0,none),(1,none),(7,none),(8,none)]),(3002,[]),(3001,[(4,none)])]),
 (194,[(2,[(0,none),(1,none),(7,none),(8,none)]),(3002,[]),(3001,[(4,none)])]),
 (195,[(4,[(0,none),(1,none),(12,none),(13,none)]),(5002,[]),(5001,[(4,none)])]),
 (196,[(4,[(0,none),(1,none),(12,none),(13,none)]),(5002,[]),(5001,[(4,none)])]),
 (198,[(2,[(0,none),(3,none)]),(3002,[]),(3001,[(2,none)])]),
 (199,[(17,[(0,none),(3,none),(5,none),(10,none),(11,none),(44,none),(45,none),(46,none),(72,none),(73,none),(74,none)]),(18008,[(0,none),(3,none),(5,none),(11,none),(44,none),(45,none),(46,none)]),(18005,[(0,none),(3,none),(5,none),(44,none),(45,none),(46,none)]),(12,[(0,none),(3,none),(5,none),(10,none),(11,none),(44,none),(45,none),(46,none),(52,none),(53,none),(54,none)]),(13006,[(0,none),(3,none),(5,none),(10,none),(11,none),(44,none),(45,none),(46,none)]),(8,[(0,none),(3,none),(5,none),(44,none),(45,none),(46,none)]),(9004,[]),(9001,[]),(3,[(0,none),(1,none),(2,none),(3,none),(5,none),(6,some 96),(25,none),(26,none),(27,none)]),(4002,[(0,none),(1,none),(2,none),(3,none),(5,none),(6,none)])]),
 (200,[(7,[(1,none),(2,none),(7,none),(8,none),(10,none),(18,none),(19,none),(20,none),(26,none),(27,none),(28,none)]),(8004,[(1,none),(2,none),(7,none),(8,none),(10,none),(18,none),(19,none),(20,none)]),(8003,[(1,none),(2,none),(7,none),(8,none),(18,none),(19,none),(20,none)]),(4,[(1,none),(2,none),(7,none),(8,some 75),(18,none),(19,none),(20,none)]),(5002,[(8,none)])]),
 (203,[(5,[(0,none),(3,none),(4,none)]),(6002,[(3,none)])]),
 (204,[(5,[(0,none),(3,none),(4,none)]),(6002,[(3,none)])]),
 (205,[(9,[(0,none),(1,none),(2,none),(6,none),(7,none),(8,none)]),(10006,[(0,none),(1,none),(2,none),(6,none),(7,none)]),(7,[(0,none),(1,none),(2,none),(6,none)]),(8004,[]),(2,[(0,none),(1,none),(2,none),(6,none),(7,none),(8,none)]),(3002,[(0,none),(1,none),(2,none),(6,none),(7,none)])]),
 (206,[(2,[(0,none),(1,none),(2,none),(11,none),(12,none),(13,none)]),(3002,[(0,none),(1,none)]),(3001,[(6,none)])]),
 (209,[(5,[(1,none),(4,none)]),(6002,[]),(6001,[(2,none)])]),
 (211,[(4,[(0,none),(2,none),(3,none),(5,none),(9,none),(11,none),(12,none)]),(5002,[(11,none)])]),
 (213,[(3,[(0,none),(2,none),(3,none),(5,none),(9,none),(10,none)]),(4002,[(9,none)])]),
 (214,[(1,[(0,none),(2,none),(3,none),(8,none)]),(2002,[]),(2001,[])]),
 (221,[(6,[(5,some 9),(6,none),(7,none),(8,none),(9,none)]),(7002,[(5,none)])]),
 (222,[(4,[(0,none),(3,none)]),(5002,[]),(5001,[(2,none)])]),
 (223,[(8,[(1,none),(2,none),(5,none)]),(9002,[]),(9001,[(4,none)])]),
 (226,[(4,[(18,none)]),(5002,[]),(5001,[(2,none)])]),
 (227,[(7,[(0,none),(5,none),(40,none),(41,none),(42,none)]),(8003,[]),(8001,[(4,none)])]),
 (229,[(7,[(0,none),(57,none),(58,none),(59,none)]),(8004,[]),(8001,[]),(2,[(0,none),(1,none),(25,none),(26,none),(27,none)]),(3002,[(0,none),(1,none)]),(3001,[])]),
 (230,[(4,[(24,none),(25,none),(26,none)]),(5002,[]),(5001,[(2,none)])]),
 (238,[(8,[(2,none),(32,none),(33,none),(34,none)]),(9004,[]),(9001,[]),(3,[(2,none),(3,some 56),(14,none),(15,none),(16,none)]),(4002,[(2,none),(3,none)])]),
 (241,[(1,[(0,none),(6,none),(7,none),(8,none)]),(2002,[]),(2001,[])]),
 (242,[(2,[(0,none),(1,none),(7,none),(8,none)]),(3002,[]),(3001,[(4,none)])]),
 (244,[(4,[(0,none),(1,none),(2,none),(3,none),(8,none),(9,none)]),(5004,[(0,none),(1,none),(2,none),(3,none),(8,none)]),(1,[(0,none),(1,none),(2,none),(3,none),(8,none)]),(2002,[])]),
 (245,[(33,[(0,none),(1,none),(2,none),(3,none),(4,none),(18,none),(19,none),(20,none),(21,none),(22,none)]),(34010,[(0,none),(1,none),(2,none),(3,none),(4,none),(18,none),(19,none),(20,none)]),(21,[(0,none),(14,none),(17,none)]),(22008,[]),(15,[(0,none),(2,none),(4,none),(14,none),(15,none)]),(16006,[(0,none),(2,none),(14,none)]),(9,[(0,none),(10,none),(13,none)]),(10004,[]),(3,[(0,none),(1,none),(4,none),(10,none),(11,none)]),(4002,[(0,none),(1,none),(10,none)])]),
 (248,[(9,[(2,none),(3,none),(4,none),(10,none),(11,none)]),(10002,[(10,none)])]),
 (250,[(3,[(0,none),(2,none),(3,none),(5,none),(9,none),(11,none)]),(4002,[]),(4001,[(8,none)])]),
 (253,[(3,[(1,none),(3,some 1000000009),(4,none)]),(4002,[(3,none)])]),
 (254,[(3,[(1,none),(2,none),(5,some 1000000009),(6,none)]),(4002,[(5,none)])]),
 (258,[(2,[(0,none),(2,none),(4,none),(12,none),(13,none),(14,none)]),(3002,[(0,none),(2,none),(4,none)]),(3001,[(6,none)])]),
 (260,[(10,[(1,none),(49,none),(50,none),(51,none)]),(11003,[]),(11001,[(4,none)])]),
 (261,[(2,[(5,none),(6,none),(7,none)]),(3002,[]),(3001,[(2,none)])]),
 (264,[(3,[(3,some 9),(7,none),(8,none),(9,none)]),(4002,[(3,none)])]),
 (265,[(3,[(2,none),(11,none),(12,none),(13,none)]),(4002,[]),(4001,[])]),
 (266,[(2,[(0,none),(2,none),(4,none),(10,none),(11,none)]),(3002,[(0,none),(2,none),(4,none),(10,none)])]),
 (269,[(1,[(0,none),(1,none),(2,none),(3,none),(10,none)]),(2002,[])])
 ]
def YC(k:Nat):List (Nat×List (Nat×Option Nat))->List (Nat×Option Nat)
 |[]=>[]
 |(j,l)::r=>bif Nat.beq j k then l else YC k r
def Z4(f k:Nat):List (Nat×List (Nat×List (Nat×Option Nat)))->List (Nat×Option Nat)
 |[]=>[]
 |(g,l)::r=>bif Nat.beq g f then YC k l else Z4 f k r
def live(f k:Nat):List (Nat×Option TypeId):=Z4 f k Ut
structure Kp where
 tree:Addr
 stuck:Addr
 T1:TypeId
 T2:TypeId
 z1:Nat×Nat
 z2:Nat×Nat
 fK:Addr
 arity:Addr
 type:Addr
 T3:TypeId
 T4:TypeId
 T5:TypeId
 z3:Nat×Nat
 z4:Nat×Nat
 z5:Nat×Nat
 c3:Array Value
 c4:Array Value
 c5:Array Value
 t3:TypeId
 t4:TypeId
 t5:TypeId
 d1:fK≠arity
 d2:fK≠type
 d3:arity≠type
 n3: ∀g,g∈[1,0,3,4,2]->fK.block≠g
 n4: ∀g,g∈[1,0,3,4,2]->arity.block≠g
 n5: ∀g,g∈[1,0,3,4,2]->type.block≠g
def Wb(κ:Kp):Value:= .iface 306 (.pointer (some κ.tree))
def mg(κ:Kp):Value:= .iface 306 (.pointer (some κ.stuck))
def x2(κ:Kp)(b:Nat):Option Go.Obj:=
 bif Nat.beq b 1 then some (.cells #[.iface 306 (.pointer (some κ.tree))] κ.T1 κ.z1)
 else bif Nat.beq b 0 then some (.cells #[.iface 306 (.pointer (some κ.stuck))] κ.T2 κ.z2)
 else bif Nat.beq b 3 then some (.cells #[.iface 306 (.pointer (some κ.fK))] κ.T3 κ.z3)
 else bif Nat.beq b 4 then some (.cells #[.iface 306 (.pointer (some κ.arity))] κ.T4 κ.z4)
 else bif Nat.beq b 2 then some (.cells #[.iface 306 (.pointer (some κ.type))] κ.T5 κ.z5)
 else bif Nat.beq b κ.fK.block then some (.cells κ.c3 κ.t3 (0,0))
 else bif Nat.beq b κ.arity.block then some (.cells κ.c4 κ.t4 (0,0))
 else bif Nat.beq b κ.type.block then some (.cells κ.c5 κ.t5 (0,0))
 else none
def az(κ:Kp)(ok:Bool):Value:=bif ok then .nilIface else .iface 306 (.pointer (some κ.tree))
theorem mT(κ:Kp)(b:Bool):aC (az κ b)=true:=by cases b<;>rfl
theorem pO(κ:Kp)(b:Bool):bM (az κ b)=b:=by cases b<;>rfl
theorem nw(κ:Kp)(b:Bool):bg (az κ b)=true:=by cases b<;>rfl
noncomputable abbrev Pr(κ:Kp):Pg:={toProgram:=Tryz.prog,kept:=x2 κ}
theorem yM:qi Tryz.prog:=Nt (by kernel_rfl)
def Wz:List Nat:=[180,234,190,235,240,191,239,117,237,125,174,95,175,131,194,177,96,79,128,80,71,116,120,192,127,58,59]
def XJ:List Nat:=[123,187,163,248,211,212,249]
def RB:List Nat:=[232,226,268,262,263,231,260,230,233,261,111,193,242,119,106,173,16,26,94,93,55,54,999999,999999,999999,255,256,222,169,257,223,168,224,225,170,102,130,103,100,220,176,109,209,150,210,267,250,251,213,179,115,44,73,57,97,999999,999999,999999,999999,92,53]
def QN:List Nat:=[182,264,189,124,110,151]
def UI:List Nat:=[72]
noncomputable def E0(κ:Kp):Env:=((Env.none (Pr κ) live (fun f=>jm f Wz) (fun f=>jm f XJ) (fun f=>jm f RB)).jr (fun f=>jm f QN)).iX (fun f=>jm f UI)
theorem e0(κ:Kp):aB (E0 κ):=((aB.none yM).jr _).iX _
theorem m0(κ:Kp):aj (E0 κ):=(aj.none.jr _).iX _
theorem y48(κ:Kp)(op:Int)(K:AV->List Dn.Obj->Prop):(a8 (E0 κ) 12 232 [.int op] [] K)=(
 aD (op==(5:Int)) (K (AV.bool true) []) (aD (op==(6:Int)) (K (AV.bool true) []) (K (AV.bool (op==(7:Int))) []))):=by kernel_rfl
def Yq:List AV->Option (Bool×AV)
 |[.lit (.int .i64 op)]=>some (true, .bool (kO op))
 |_=>none
theorem p48(κ:Kp):cU (E0 κ) 12 232 Yq:=by
 intro args x h
 unfold Yq at h
 split at h
 ·rename_i op
  simp only[aa4,ab0,true_and] at h
  subst h
  refine⟨_,rfl,rfl,?_⟩
  rw[y48]
  unfold kO
  by_cases h1:op=5<;>by_cases h2:op=6<;>by_cases h3:op=7<;>simp[ah,h1,h2,h3]<;>omega
 ·cases h
noncomputable def NT(κ:Kp):Env:=(E0 κ).aH 232 Yq
theorem e48(κ:Kp):aB (NT κ):=(e0 κ).aH (m0 κ) (p48 κ)
theorem ZV(κ:Kp):aj (NT κ):=(m0 κ).aH
theorem x57(κ:Kp)(s:ByteArray)(p:Nat)(I:Nat->S->Prop)(n:Nat)(K:Exit->S->Prop):(vc (NT κ) 12 226 none 0 (af (Pr κ).toProgram 226 4) (sp 55 [(18, .ptr 0 0 [] 0)] [.dy s p]) (bK (NT κ) 226 4 0 I n K))=(
 letI z2:=∃(e0:Nat),e0<n/\I e0 (sp 55 [(18,AV.ptr 0 0 [] 0)] [Obj.dy s (p+Prod.snd (Utf8.decode s p))])
 letI z3:=Prod.fst (Utf8.decode s p)
 letI z5:=K Exit.ret (sp 55 [(2,AV.bool false)] [])
 letI z1:=aD (!(↑z3:Int)==(95:Int)) (aD ((↑p:Int)==(0:Int)) z5 (aD (decide ((↑z3:Int)<(48:Int))) z5 (aD (decide ((↑z3:Int)>(57:Int)))
  z5 z2))) z2
 letI z4:=aD (decide ((↑z3:Int)>=(65:Int))) (aD (decide ((↑z3:Int)<=(90:Int))) z2 z1) z1
 aD (Nat.blt p (ByteArray.size s)) (aD (decide ((↑z3:Int)>=(97:Int))) (aD (decide ((↑z3:Int)<=(122:Int))) z2 z4) z4) (K (Exit.exit 0) (sp 55 [] []))):=by kernel_rfl
abbrev Q9(a:ByteArray×Nat):S:=sp 55 [(18, .ptr 0 0 [] 0)] [.dy a.1 a.2]
noncomputable def Cg(a:ByteArray×Nat):Out (Exit×S):=
 .aD (nameAt a.1 a.2) (.one (.exit 0,sp 55 [] [])) (.one (.ret,sp 55 [(2, .bool false)] []))
theorem l57(κ:Kp):bj (NT κ) 12 226 4 (aO 0 Q9 (fun _=>True) Cg):=by
 refine aK (fun a=>a.1.size - a.2) ?_
 rintro⟨s,p⟩ K - ho
 rw[show(NT κ).P=Pr κ from rfl,x57]
 simp only[Cg,Out.run,ah] at ho
 have hgo: ∀c:Int,c=(Utf8.decode s p).1->p<s.size->(letter c||(!(decide ((p:Int)=0)||decide (c<48)||decide ((57:Int)<c))))=true->
   ∃m,m<s.size - p/\fq Q9 (fun _=>True) Cg (fun a=>a.1.size - a.2) K m (sp 55 [(18, .ptr 0 0 [] 0)] [.dy s (p+(Utf8.decode s p).2)]):=by
  rintro c rfl hp hc
  have:=yf s p
  refine⟨s.size - (p+(Utf8.decode s p).2),by omega,(s,p+(Utf8.decode s p).2),rfl,trivial,rfl,?_⟩
  rw[nameAt,dif_pos hp,hc,ac0] at ho
  simpa only[Cg,Out.run,ah] using ho
 have hno: ∀c:Int,c=(Utf8.decode s p).1->p<s.size->(letter c||(!(decide ((p:Int)=0)||decide (c<48)||decide ((57:Int)<c))))=false->K Exit.ret (sp 55 [(2, .bool false)] []):=by
  rintro c rfl hp hc
  rw[nameAt,dif_pos hp,hc,Bool.false_and] at ho
  exact ho.2 rfl
 have hgo:=hgo _ rfl
 have hno:=hno _ rfl
 generalize ((Utf8.decode s p).1:Int)=c at*
 simp only[ah,Nat.blt_eq,aa1,aa3,beq_iff_eq,beq_eq_false_iff_ne,Bool.not_eq_true',ab3,bne_iff_ne]
 refine⟨fun hp=>?_,fun hp=>ho.1 ?_⟩
 ·have hgo:=hgo hp
  have hno:=hno hp
  simp only[letter,ab6,aa2,Bool.not_eq_true',Bool.or_eq_false_iff,Bool.and_eq_false_iff,ab3,aa1,aa3] at hgo hno
  repeat' (first|apply And.intro|intro _)
  all_goals first|(refine hgo ?_;omega)|(refine hno ?_;omega)
 ·have hp: ¬ p<s.size:=fun h=>by rw[show Nat.blt p s.size=true from by rw[Nat.blt_eq];exact h] at hp;cases hp
  rw[nameAt,dif_neg hp]
noncomputable def Jp(κ:Kp):Env:=(NT κ).ak 226 4 (aO 0 Q9 (fun _=>True) Cg)
theorem Xk(κ:Kp):aB (Jp κ):=(e48 κ).ak (ZV κ) (l57 κ)
theorem Vp(κ:Kp):aj (Jp κ):=(ZV κ).ak aG
theorem y57(κ:Kp)(s:ByteArray)(K:AV->List Dn.Obj->Prop):(a8 (Jp κ) 12 226 [.lit (.string s)] [] K)=(
 letI z1:=K (AV.bool false) []
 letI z2:=Pg.toProgram (Env.P (NT κ))
 aD (ByteArray.toList s==ByteArray.toList {data:= #[]}) z1 (aD (ByteArray.toList s==ByteArray.toList {data:= #[OfNat.ofNat 95]}) z1 (aD (decide ((↑(ByteArray.size s):Int)>(40:Int))) z1 (af z2 226 4=af z2 226 4/\∃(e0:ByteArray×Nat),sp 55 [(18,AV.ptr 0 0 [] 0)] [Obj.dy s 0]=sp 55 [(18,AV.ptr 0 0 [] 0)] [Obj.dy e0.1 e0.2]/\True/\aD (nameAt e0.1 e0.2) (K (AV.bool true) []) z1)))):=by kernel_rfl
def XQ:List AV->Option (Bool×AV)
 |[.lit (.string s)]=>some (true, .bool (isName s))
 |_=>none
theorem p57(κ:Kp):cU (Jp κ) 12 226 XQ:=by
 intro args x h
 unfold XQ at h
 split at h
 ·rename_i s
  simp only[aa4,ab0,true_and] at h
  subst h
  refine⟨_,rfl,rfl,?_⟩
  rw[y57]
  unfold isName lU
  simp only[ah,aa1,aa3]
  refine⟨fun h1=>by rw[h1];rfl,fun h1=>⟨fun h2=>by rw[h1,h2];rfl,fun h2=>⟨fun h3=>?_,fun h3=>⟨trivial,⟨s,0⟩,rfl,trivial,fun h4=>?_,fun h4=>?_⟩⟩⟩⟩
  ·rw[h1,h2,aa7 (show(40:Int)<s.size from h3)];rfl
  ·rw[h1,h2,aa5 (show ¬ (40:Int)<s.size from h3),h4];rfl
  ·rw[h1,h2,aa5 (show ¬ (40:Int)<s.size from h3),h4];rfl
 ·cases h
noncomputable def Vs(κ:Kp):Env:=(Jp κ).aH 226 XQ
theorem e57(κ:Kp):aB (Vs κ):=(Xk κ).aH (Vp κ) (p57 κ)
theorem Zj(κ:Kp):aj (Vs κ):=(Vp κ).aH
theorem y64(κ:Kp)(op:Int)(s:ByteArray)(n:Int)(l:List AV)(K:AV->List Dn.Obj->Prop):(a8 (Vs κ) 12 268 [.agg [.int op, .lit (.string s), .int n, .ad 56 l]] [] K)=(
 letI z1:=K (AV.bool (n==(0:Int))) []
 letI z2:=K (AV.bool false) []
 letI z3:=ByteArray.toList s==ByteArray.toList {data:= #[]}
 aD (op==(1:Int)) (aD (isName s) z1 z2) (aD (op==(2:Int)) (K (AV.bool z3) []) (aD (op==(3:Int)) z1 (aD (op==(4:Int)) (aD z3 z1 z2) (aD (op==(0:Int)) (aD (ByteArray.toList s==ByteArray.toList {data:= #[]}) z1 z2) z2))))):=by kernel_rfl
def W6:List AV->Option (Bool×AV)
 |[.agg [.lit (.int .i64 op), .lit (.string s), .lit (.int .i64 n), .ad 56 _]]=>some (true, .bool (bare op s n))
 |_=>none
theorem p64(κ:Kp):cU (Vs κ) 12 268 W6:=by
 intro args x h
 unfold W6 at h
 split at h
 ·rename_i op s n l
  simp only[aa4,ab0,true_and] at h
  subst h
  refine⟨_,rfl,rfl,?_⟩
  rw[y64]
  have e: ∀k:Int,(op==k)=decide (op=k):=fun k=>by by_cases h:op=k<;>simp[h]
  simp only[e]
  cases h5:isName s<;>cases h6:(ByteArray.toList s==ByteArray.toList (ByteArray.mk #[]))<;>
  by_cases h1:op=1<;>by_cases h2:op=2<;>by_cases h3:op=3<;>by_cases h4:op=4<;>by_cases h0:op=0<;>
  first|omega|(simp only[aD,bare,lU,h5,h6,h1,h2,h3,h4,h0];rfl)|(simp[aD,bare,lU,h5,h6,h1,h2,h3,h4,h0];done)|(simp[aD,bare,lU,h5,h6,h1,h2,h3,h4,h0];rfl)|skip
 ·cases h
noncomputable def Pd(κ:Kp):Env:=(Vs κ).aH 268 W6
theorem V4(κ:Kp):aB (Pd κ):=(e57 κ).aH (Zj κ) (p64 κ)
theorem m64(κ:Kp):aj (Pd κ):=(Zj κ).aH
theorem Va(l:List AV):((l.length:Int)==0)=decide ((l.length:Int)=0):=by
 cases h:decide ((l.length:Int)=0) with
 |true=>rw[aa1] at h;rw[h];rfl
 |false=>rw[aa3] at h;exact beq_eq_false_iff_ne.2 h
theorem y60(κ:Kp)(op:Int)(s:ByteArray)(n:Int)(l:List AV)(K:AV->List Dn.Obj->Prop):(a8 (Pd κ) 12 262 [.agg [.int op, .lit (.string s), .int n, .ad 56 l]] [] K)=(
 aD (op==(0:Int)) (aD (bare op s n) (K (AV.bool ((↑(l.length):Int)==(0:Int))) []) (K (AV.bool false) [])) (K (AV.bool false) [])):=by kernel_rfl
theorem y61(κ:Kp)(s:ByteArray)(l:List AV)(K:AV->List Dn.Obj->Prop):(a8 (Pd κ) 12 263 [.agg [.lit (.string s), .ad 56 l]] [] K)=(
 aD (ByteArray.toList s==ByteArray.toList {data:= #[]}) (K (AV.bool ((↑(l.length):Int)==(0:Int))) []) (K (AV.bool false) [])):=by kernel_rfl
theorem y47(κ:Kp)(b:Bool)(K:AV->List Dn.Obj->Prop):(a8 (Pd κ) 12 231 [.bool b] [] K)=(
 aD b (K (AV.lit Value.nilIface) []) (K (AV.lit (Value.iface 306 (Value.pointer (some (Kp.tree κ))))) [])):=by kernel_rfl
def XW:List AV->Option (Bool×AV)
 |[.agg [.lit (.int .i64 op), .lit (.string s), .lit (.int .i64 n), .ad 56 l]]=>some (true, .bool (decide (op=0)&&bare op s n&&decide ((l.length:Int)=0)))
 |_=>none
theorem p60(κ:Kp):cU (Pd κ) 12 262 XW:=by
 intro args x h
 unfold XW at h
 split at h
 ·rename_i op s n l
  simp only[aa4,ab0,true_and] at h
  subst h
  refine⟨_,rfl,rfl,?_⟩
  rw[y60]
  rw[Va]
  cases h5:bare op s n<;>by_cases h0:op=0<;>simp[ah,h5,h0]<;>first|rfl|skip
 ·cases h
def WI:List AV->Option (Bool×AV)
 |[.agg [.lit (.string s), .ad 56 l]]=>some (true, .bool (lU s (ByteArray.mk #[])&&decide ((l.length:Int)=0)))
 |_=>none
theorem p61(κ:Kp):cU (Pd κ) 12 263 WI:=by
 intro args x h
 unfold WI at h
 split at h
 ·rename_i s l
  simp only[aa4,ab0,true_and] at h
  subst h
  refine⟨_,rfl,rfl,?_⟩
  rw[y61]
  unfold lU
  rw[Va]
  cases h5:(ByteArray.toList s==ByteArray.toList (ByteArray.mk #[]))<;>simp[ah]<;>first|rfl|skip
 ·cases h
def XL(κ:Kp):List AV->Option (Bool×AV)
 |[.lit (.bool b)]=>some (true, .lit (az κ b))
 |_=>none
theorem p47(κ:Kp):cU (Pd κ) 12 231 (XL κ):=by
 intro args x h
 unfold XL at h
 split at h
 ·rename_i b
  simp only[aa4,ab0,true_and] at h
  subst h
  refine⟨_,rfl,nw κ b,?_⟩
  rw[y47]
  cases b<;>rfl
 ·cases h
noncomputable def V6(κ:Kp):Env:=(((Pd κ).aH 262 XW).aH 263 WI).aH 231 (XL κ)
theorem Zs(κ:Kp):aB (V6 κ):=(((V4 κ).fp (oa (V4 κ) (m64 κ) (p60 κ))).fp (oa (V4 κ) (m64 κ) (p61 κ))).fp (oa (V4 κ) (m64 κ) (p47 κ))
theorem ZG(κ:Kp):aj (V6 κ):=(((m64 κ).aH).aH).aH
def QE(κ:Kp):List AV->Option (Bool×AV)
 |[.agg [.lit (.int .i64 op), .lit (.string s), .lit (.int .i64 n), .ad 56 l], .lit (.int .i64 h)]=>some (decide (0<=h)&&decide (h<=1000), .lit (az κ (au h.toNat (.mk op s n (aa l)))))
 |_=>none
def E5:List AV->Nat
 |[_, .lit (.int .i64 h)]=>h.toNat
 |_=>0
noncomputable def zQ(κ:Kp)(n:Nat):Env:=(V6 κ).aH 260 (below (QE κ) E5 n)
theorem x58(κ:Kp)(r:Nat)(h:Int)(l:List AV)(i:Int)(I:Nat->S->Prop)(n:Nat)(K:Exit->S->Prop):(vc (zQ κ r) 12 260 none 0 (af (Pr κ).toProgram 260 10) (sp 72 [(1, .int h),(49, .ad 56 l),(50, .int l.length),(51, .int i)] []) (bK (zQ κ r) 260 10 0 I n K))=(
 letI z2:=nth l i.toNat
 letI z3:=K Exit.ret (sp 72 [(4,AV.lit (Value.iface 306 (Value.pointer (some (Kp.tree κ)))))] [])
 letI z5:=i<(↑(l.length):Int)
 letI z6:=h - (1:Int)
 letI z4:=IntKind.wrap IntKind.i64 z6
 letI z1:=az κ (au (Int.toNat z4) (Tm.mk (toInt (ae z2 0)) (toStr (ae z2 1)) (toInt (ae z2 2)) (aa (ai (ae z2 3)))))
 aD (decide z5) (aX (decide ((0:Int)<=i)&&decide z5) (aD (toInt (ae z2 0)==(3:Int)) z3 (aD (toInt (ae z2 0)==(4:Int)) z3 (aX (decide ((0:Int)<=
 IntKind.wrap IntKind.i64 z6)&&decide (IntKind.wrap IntKind.i64 z6<=(1000:Int))&&Nat.blt (E5 [AV.agg [AV.int (toInt (ae z2 0)),AV.str (toStr (ae z2 1)),
 AV.int (toInt (ae z2 2)),AV.ad 56 (ai (ae z2 3))],AV.int z4]) r) (aX (aC z1) (aD (!bM z1) (K Exit.ret (sp 72 [(4,AV.lit z1)] [])) (∃(e0:Nat),e0<n/\I
 e0 (sp 72 [(1,AV.int h),(49,AV.ad 56 l),(50,AV.int (↑(l.length):Int)),(51,AV.int (IntKind.wrap IntKind.i64 (i+(1:Int))))] [])))))))) (K (Exit.exit
 1) (sp 72 [] []))):=by kernel_rfl
abbrev T7(a:Int×List AV×Int):S:=sp 72 [(1, .int a.1),(49, .ad 56 a.2.1),(50, .int a.2.1.length),(51, .int a.2.2)] []
def KO(r:Nat)(a:Int×List AV×Int):Prop:=1<=a.1/\a.1<=1000/\a.1.toNat<=r/\a.2.1.length<=aR/\0<=a.2.2/\a.2.2<=a.2.1.length
noncomputable def FP(κ:Kp)(a:Int×List AV×Int):Out (Exit×S):=
 .aD (ng (a.1 - 1).toNat (aa (a.2.1.drop a.2.2.toNat))) (.one (.exit 1,sp 72 [] [])) (.one (.ret,sp 72 [(4, .lit (az κ false))] []))
theorem l58(κ:Kp)(r:Nat):bj (zQ κ r) 12 260 10 (aO 0 T7 (KO r) (FP κ)):=by
 refine aK (fun a=>a.2.1.length - a.2.2.toNat) ?_
 rintro⟨h,l,i⟩ K ⟨h1,h2,h3,h4,h5,h6⟩ ho
 simp only at h1 h2 h3 h4 h5 h6
 rw[show(zQ κ r).P=Pr κ from rfl,x58]
 simp only[FP,Out.run,ah] at ho
 rw[aW (n:=h - 1) (by omega) (by omega)]
 simp only[aR] at h4
 simp only[mT,pO]
 simp only[←dh]
 simp only[ah,aq,aa1,aa3,aa2,beq_iff_eq,beq_eq_false_iff_ne,Bool.not_eq_true',ab3,E5,Nat.blt_eq]
 refine⟨fun hi=>⟨⟨h5,hi⟩,?_⟩,fun hi=>ho.1 ?_⟩
 ·have e:=eI l i.toNat (by omega)
  rw[e] at ho
  have hop:(cR (nth l i.toNat)).op=toInt (ae (nth l i.toNat) 0):=by rw[dh];rfl
  simp only[ng,List.all_cons,hop] at ho
  refine⟨fun ha=>ho.2 (by simp[ha]),fun ha=>⟨fun hb=>ho.2 (by simp[hb]),fun hb=>⟨⟨⟨by omega,by omega⟩,by omega⟩,trivial,fun hc=>?_,fun hc=>?_⟩⟩⟩
  ·rw[hc];exact ho.2 (by rw[hc];simp)
  ·rw[aW (n:=i+1) (by omega) (by omega)]
   refine⟨_,?_,(h,l,i+1),rfl,⟨h1,h2,h3,by simpa[aR] using h4,by simp only;omega,by simp only;omega⟩,rfl,?_⟩
   ·simp only;omega
   ·rw[hc] at ho
    simp only[FP,Out.run,ah,ng]
    rw[show(i+1).toNat=i.toNat+1 by omega]
    simpa[ha,hb] using ho
 ·rw[aa9 (by omega)];rfl
noncomputable def HW(κ:Kp)(r:Nat):Env:=(zQ κ r).ak 260 10 (aO 0 T7 (KO r) (FP κ))
theorem y58(κ:Kp)(r:Nat)(op:Int)(s:ByteArray)(n:Int)(l:List AV)(h:Int)(K:AV->List Dn.Obj->Prop):(a8 (HW κ r) 12 260 [.agg [.int op, .lit (.string s), .int n, .ad 56 l], .int h] [] K)=(
 letI z1:=K (AV.lit (Value.iface 306 (Value.pointer (some (Kp.tree κ))))) []
 letI z2:=Pg.toProgram (Env.P (zQ κ r))
 letI z3:=K (AV.lit Value.nilIface) []
 aD (h==(0:Int)) z1 (aD (op==(0:Int)) z1 (aD (!kO op) (aD (!bare op s n) z1 (aD (decide ((↑(l.length):Int)>(0:Int))) z1 z3)) (aD (!ByteArray.toList s==ByteArray.toList {data:= #[]}) z1 (aD (n != (0:Int)) z1 (aD ((↑(l.length):Int) != (2:Int)) z1 (af z2 260 10=af z2 260 10/\∃(e0:Int×List AV×Int),sp 72 [(1,AV.int h),(49,AV.ad 56 l),(50,AV.int (↑(l.length):Int)),(51,AV.int 0)] []=sp 72 [(1,AV.int e0.1),(49,AV.ad 56 e0.2.1),(50,AV.int (↑(e0.2.1.length):Int)),(51,AV.int e0.2.2)] []/\((1:Int)<=e0.1/\e0.1<=(1000:Int)/\e0.1.toNat<=r/\e0.2.1.length<=9223372036854775807/\(0:Int)<=e0.2.2/\e0.2.2<=(↑(e0.2.1.length):Int))/\aD (ng (Int.toNat (e0.1 - (1:Int))) (aa (List.drop (Int.toNat e0.2.2) e0.2.1))) z3 z1))))))):=by kernel_rfl
theorem Ww(κ:Kp)(r:Nat)(hp:iB (Pr κ) 260 (below (QE κ) E5 r)):aB (HW κ r)/\aj (HW κ r)/\(HW κ r).P=Pr κ:=
 have h:aB (zQ κ r):=(Zs κ).fp hp
 have hm:aj (zQ κ r):=(ZG κ).aH
 ⟨h.ak hm (l58 κ r),hm.ak aG,rfl⟩
theorem p58(κ:Kp)(r:Nat):cU (HW κ r) 12 260 (fun xs=>bif Nat.beq (E5 xs) r then QE κ xs else none):=by
 intro args x hh
 cases hb:Nat.beq (E5 args) r with
 |false=>simp only[hb] at hh;cases hh
 | true=>
  simp only[hb,aa8] at hh
  unfold QE at hh
  split at hh
  ·rename_i op s n l h
   simp only[aa4,ab0,aa2,aa1] at hh
   obtain⟨⟨h1,h2⟩,rfl⟩:=hh
   have hr:h.toNat=r:=Nat.eq_of_beq_eq_true hb
   refine⟨_,rfl,nw κ _,?_⟩
   rw[y58]
   have ef:AV.lit (.iface 306 (.pointer (some κ.tree)))= .lit (az κ false):=rfl
   have et:AV.lit .nilIface= .lit (az κ true):=rfl
   rw[ef,et]
   by_cases h0:h=0
   ·subst h0;rfl
   ·obtain⟨m,hm⟩: ∃m,h.toNat=m+1:=⟨h.toNat - 1,by omega⟩
    rw[hm,r9,eP]
    unfold lU
    generalize (ByteArray.toList s==ByteArray.toList (ByteArray.mk #[]))=z
    simp only[ah,beq_iff_eq,beq_eq_false_iff_ne,Bool.not_eq_true',ab3,aa1,aa3,bne_iff_ne,bne_eq_false_iff_eq]
    refine⟨fun e=>absurd e h0,fun _=>⟨fun e=>by rw[aa7 e];rfl,fun e=>?_⟩⟩
    rw[aa5 e,aa6]
    refine⟨fun e2=>?_,fun e2=>?_⟩
    ·rw[e2,aa6]
     refine⟨fun e3=>by rw[e3];rfl,fun e3=>⟨fun e4=>?_,fun e4=>?_⟩⟩
     ·rw[aa5 (show ¬ l.length=0 by omega),Bool.and_false]
     ·rw[e3,aa7 (show l.length=0 by omega)];rfl
    ·rw[e2,aa8]
     refine⟨fun e3=>by rw[e3];rfl,fun e3=>⟨fun e4=>by rw[e3,aa5 e4];rfl,fun e4=>⟨fun e5=>?_,fun e5=>?_⟩⟩⟩
     ·rw[aa5 (show ¬ l.length=2 by omega)];simp
     ·refine⟨trivial,(h,l,0),rfl,⟨by simp only;omega,h2,by simp only;omega,by simp only;omega,by simp only;omega,by simp only;omega⟩,?_⟩
      rw[e3,aa7 e4,aa7 (show l.length=2 by omega)]
      simp only[show(h - 1).toNat=m by omega,ab8,ab1,ac0]
      exact⟨fun e=>by rw[e],fun e=>by rw[e]⟩
  ·cases hh
theorem q58(κ:Kp):iB (Pr κ) 260 (QE κ):=aB.u7 (QE κ) E5 (HW κ) (Ww κ) (p58 κ)
noncomputable def Pa(κ:Kp):Env:=(V6 κ).aH 260 (QE κ)
theorem e58(κ:Kp):aB (Pa κ):=(Zs κ).fp (q58 κ)
theorem Zv(κ:Kp):aj (Pa κ):=(ZG κ).aH
theorem x46(κ:Kp)(l:List AV)(i:Int)(I:Nat->S->Prop)(n:Nat)(K:Exit->S->Prop):(vc (Pa κ) 12 230 none 0 (af (Pr κ).toProgram 230 4) (sp 36 [(24, .ad 56 l),(25, .int l.length),(26, .int i)] []) (bK (Pa κ) 230 4 0 I n K))=(
 letI z2:=nth l i.toNat
 letI z1:=az κ (au 20 (Tm.mk (toInt (ae z2 0)) (toStr (ae z2 1)) (toInt (ae z2 2)) (aa (ai (ae z2 3)))))
 letI z3:=i<(↑(l.length):Int)
 aD (decide z3) (aX (decide ((0:Int)<=i)&&decide z3) (aX (aC z1) (aD (!bM z1) (K Exit.ret (sp 36 [(2,AV.lit z1)] [])) (∃(e0:Nat),e0<n/\I e0 (sp 36
 [(24,AV.ad 56 l),(25,AV.int (↑(l.length):Int)),(26,AV.int (IntKind.wrap IntKind.i64 (i+(1:Int))))] []))))) (K (Exit.exit 0) (sp 36 [] []))):=by kernel_rfl
abbrev SA(a:List AV×Int):S:=sp 36 [(24, .ad 56 a.1),(25, .int a.1.length),(26, .int a.2)] []
def KP(a:List AV×Int):Prop:=a.1.length<=aR/\0<=a.2/\a.2<=a.1.length
noncomputable def Hm(κ:Kp)(a:List AV×Int):Out (Exit×S):=
 .aD ((aa (a.1.drop a.2.toNat)).all (au 20)) (.one (.exit 0,sp 36 [] [])) (.one (.ret,sp 36 [(2, .lit (az κ false))] []))
theorem l46(κ:Kp):bj (Pa κ) 12 230 4 (aO 0 SA KP (Hm κ)):=by
 refine aK (fun a=>a.1.length - a.2.toNat) ?_
 rintro⟨l,i⟩ K ⟨h4,h5,h6⟩ ho
 simp only at h4 h5 h6
 rw[show(Pa κ).P=Pr κ from rfl,x46]
 simp only[Hm,Out.run,ah] at ho
 simp only[aR] at h4
 simp only[mT,pO,←dh]
 simp only[ah,aq,aa1,aa3,aa2,beq_iff_eq,beq_eq_false_iff_ne,Bool.not_eq_true',ab3]
 refine⟨fun hi=>⟨⟨h5,hi⟩,trivial,fun hc=>?_,fun hc=>?_⟩,fun hi=>ho.1 ?_⟩
 ·rw[hc]
  rw[eI l i.toNat (by omega),List.all_cons,hc,Bool.false_and] at ho
  exact ho.2 rfl
 ·rw[aW (n:=i+1) (by omega) (by omega)]
  refine⟨_,?_,(l,i+1),rfl,⟨by simpa[aR] using h4,by simp only;omega,by simp only;omega⟩,rfl,?_⟩
  ·simp only;omega
  ·rw[eI l i.toNat (by omega),List.all_cons,hc,ac0] at ho
   simp only[Hm,Out.run,ah,show(i+1).toNat=i.toNat+1 by omega]
   exact ho
 ·rw[aa9 (by omega)];rfl
noncomputable def L6(κ:Kp):Env:=(Pa κ).ak 230 4 (aO 0 SA KP (Hm κ))
theorem XM(κ:Kp):aB (L6 κ):=(e58 κ).ak (Zv κ) (l46 κ)
theorem Vv(κ:Kp):aj (L6 κ):=(Zv κ).ak aG
theorem y46(κ:Kp)(s:ByteArray)(l:List AV)(K:AV->List Dn.Obj->Prop):(a8 (L6 κ) 12 230 [.agg [.lit (.string s), .ad 56 l]] [] K)=(
 letI z1:=K (AV.lit (Value.iface 306 (Value.pointer (some (Kp.tree κ))))) []
 letI z2:=Pg.toProgram (Env.P (Pa κ))
 aD (!isName s) z1 (aD ((↑(l.length):Int)==(0:Int)) z1 (aD (decide ((↑(l.length):Int)>(8:Int))) z1 (af z2 230 4=af z2 230 4/\∃(e0:List AV×
 Int),sp 36 [(24,AV.ad 56 l),(25,AV.int (↑(l.length):Int)),(26,AV.int 0)] []=sp 36 [(24,AV.ad 56 e0.1),(25,AV.int (↑(e0.1.length):Int)),(26,
 AV.int e0.2)] []/\(e0.1.length<=9223372036854775807/\(0:Int)<=e0.2/\e0.2<=(↑(e0.1.length):Int))/\aD (List.all (aa (List.drop e0.2.toNat e0.1)) (au
 20)) (K (AV.lit Value.nilIface) []) z1)))):=by kernel_rfl
def Xa(κ:Kp):List AV->Option (Bool×AV)
 |[.agg [.lit (.string s), .ad 56 l]]=>some (true, .lit (az κ (bk ⟨s,aa l⟩)))
 |_=>none
theorem p46(κ:Kp):cU (L6 κ) 12 230 (Xa κ):=by
 intro args x hh
 unfold Xa at hh
 split at hh
 ·rename_i s l
  simp only[aa4,ab0,true_and] at hh
  subst hh
  refine⟨_,rfl,nw κ _,?_⟩
  rw[y46]
  have ef:AV.lit (.iface 306 (.pointer (some κ.tree)))= .lit (az κ false):=rfl
  have et:AV.lit .nilIface= .lit (az κ true):=rfl
  rw[ef,et]
  simp only[bk,eP]
  simp only[ah,beq_iff_eq,beq_eq_false_iff_ne,Bool.not_eq_true',ab3,aa1,aa3]
  refine⟨fun e=>by rw[e];rfl,fun e=>⟨fun e1=>by rw[aa7 (show l.length=0 by omega)];simp,fun e1=>⟨fun e2=>by rw[aa5 (show ¬ l.length<=8 by omega)];simp,fun e2=>⟨trivial,(l,0),rfl,⟨by simp only;omega,by simp only;omega,by simp only;omega⟩,?_⟩⟩⟩⟩
  rw[e,aa5 (show ¬ l.length=0 by omega),aa7 (show l.length<=8 by omega)]
  simp only[ab8,ab1,ac0,Bool.not_false]
  exact⟨fun e=>by rw[e],fun e=>by rw[e]⟩
 ·cases hh
noncomputable def MZ(κ:Kp):Env:=(L6 κ).aH 230 (Xa κ)
theorem e46(κ:Kp):aB (MZ κ):=(XM κ).aH (Vv κ) (p46 κ)
theorem V8(κ:Kp):aj (MZ κ):=(Vv κ).aH
noncomputable def Ff(κ:Kp):Env:=(MZ κ).ak 261 2 (la (MZ κ) 12 261 2 5)
theorem XP(κ:Kp):aB (Ff κ):=(e46 κ).ak (V8 κ) (sr (V8 κ) 5)
theorem Vr(κ:Kp):aj (Ff κ):=(V8 κ).ak (lg (V8 κ) 5)
theorem X9(κ:Kp)(u1 u2:Value)(K:AV->List Dn.Obj->Prop):(a8 (Ff κ) 12 261 [.ad 170 [.lit u1, .lit u2]] [] K)=(
 letI z1:=Pg.toProgram (Env.P (MZ κ))
 af z1 261 2=af z1 261 2/\aX (aC u1) (aD (!bM u1) (K (AV.lit u1) []) (aX (aC u2) (aD (!bM u2) (K (AV.lit u2) []) (K (AV.lit Value.nilIface) []))))):=by kernel_rfl
theorem Ys(κ:Kp)(u1 u2 u3:Value)(K:AV->List Dn.Obj->Prop):(a8 (Ff κ) 12 261 [.ad 170 [.lit u1, .lit u2, .lit u3]] [] K)=(
 letI z1:=Pg.toProgram (Env.P (MZ κ))
 af z1 261 2=af z1 261 2/\aX (aC u1) (aD (!bM u1) (K (AV.lit u1) []) (aX (aC u2) (aD (!bM u2) (K (AV.lit u2) []) (aX (aC u3) (aD (!bM u3) (K (AV.lit u3) [])
 (K (AV.lit Value.nilIface) []))))))):=by kernel_rfl
theorem XA(κ:Kp)(u1 u2 u3 u4:Value)(K:AV->List Dn.Obj->Prop):(a8 (Ff κ) 12 261 [.ad 170 [.lit u1, .lit u2, .lit u3, .lit u4]] [] K)=(
 letI z1:=Pg.toProgram (Env.P (MZ κ))
 af z1 261 2=af z1 261 2/\aX (aC u1) (aD (!bM u1) (K (AV.lit u1) []) (aX (aC u2) (aD (!bM u2) (K (AV.lit u2) []) (aX (aC u3) (aD (!bM u3) (K (AV.lit u3) [])
 (aX (aC u4) (aD (!bM u4) (K (AV.lit u4) []) (K (AV.lit Value.nilIface) []))))))))):=by kernel_rfl
def bD(u v:Value):Value:=bif bM u then v else u
theorem EH(κ:Kp)(a b:Bool):bD (az κ a) (az κ b)=az κ (a&&b):=by cases a<;>rfl
theorem DT{u:Value}(h:aC u=true)(h2:bM u=true):u= .nilIface:=by cases u<;>simp_all[bM,aC]
def Xw:List AV->Option (Bool×AV)
 |[.ad 170 [.lit u1, .lit u2]]=>some ((aC u1&&aC u2)&&(bg u1&&bg u2), .lit (bD u1 u2))
 |[.ad 170 [.lit u1, .lit u2, .lit u3]]=>some ((aC u1&&(aC u2&&aC u3))&&(bg u1&&(bg u2&&bg u3)), .lit (bD u1 (bD u2 u3)))
 |[.ad 170 [.lit u1, .lit u2, .lit u3, .lit u4]]=>some ((aC u1&&(aC u2&&(aC u3&&aC u4)))&&(bg u1&&(bg u2&&(bg u3&&bg u4))), .lit (bD u1 (bD u2 (bD u3 u4))))
 |_=>none
theorem p59(κ:Kp):cU (Ff κ) 12 261 Xw:=by
 intro args x hh
 unfold Xw at hh
 split at hh
 ·rename_i u1 u2
  simp only[aa4,ab0,aa2] at hh
  obtain⟨⟨⟨h1,h2⟩,h3,h4⟩,rfl⟩:=hh
  refine⟨_,rfl,by unfold bD;cases bM u1<;>assumption,?_⟩
  rw[X9,h1,h2]
  refine⟨rfl,?_⟩
  unfold bD
  cases e1:bM u1
  ·rfl
  ·cases e2:bM u2
   ·rfl
   ·rw[DT h2 e2];rfl
 ·rename_i u1 u2 u3
  simp only[aa4,ab0,aa2] at hh
  obtain⟨⟨⟨h1,h2,h3⟩,h4,h5,h6⟩,rfl⟩:=hh
  refine⟨_,rfl,by unfold bD;cases bM u1<;>cases bM u2<;>assumption,?_⟩
  rw[Ys,h1,h2,h3]
  refine⟨rfl,?_⟩
  unfold bD
  cases e1:bM u1
  ·rfl
  ·cases e2:bM u2
   ·rfl
   ·cases e3:bM u3
    ·rfl
    ·rw[DT h3 e3];rfl
 ·rename_i u1 u2 u3 u4
  simp only[aa4,ab0,aa2] at hh
  obtain⟨⟨⟨h1,h2,h3,k1⟩,h4,h5,h6,k2⟩,rfl⟩:=hh
  refine⟨_,rfl,by unfold bD;cases bM u1<;>cases bM u2<;>cases bM u3<;>assumption,?_⟩
  rw[XA,h1,h2,h3,k1]
  refine⟨rfl,?_⟩
  unfold bD
  cases e1:bM u1
  ·rfl
  ·cases e2:bM u2
   ·rfl
   ·cases e3:bM u3
    ·rfl
    ·cases e4:bM u4
     ·rfl
     ·rw[DT k1 e4];rfl
 ·cases hh
noncomputable def UO(κ:Kp):Env:=(Ff κ).aH 261 Xw
theorem e59(κ:Kp):aB (UO κ):=(XP κ).aH (Vr κ) (p59 κ)
theorem YL(κ:Kp):aj (UO κ):=(Vr κ).aH
theorem y49(κ:Kp)(op:Int)(s:ByteArray)(l:List AV)(o1:Int)(s1:ByteArray)(n1:Int)(l1:List AV)(o2:Int)(s2:ByteArray)(n2:Int)(l2:List AV)(K:AV->List Dn.Obj->Prop):(a8 (UO κ) 12 233 [.agg [.int op, .agg [.lit (.string s), .ad 56 l], .agg [.int o1, .lit (.string s1), .int n1, .ad 56 l1], .agg [.int o2, .lit (.string s2), .int n2, .ad 56 l2]]] [] K)=(
 letI z3:=az κ (au 20 (Tm.mk o1 s1 n1 (aa l1)))
 letI z4:=az κ (au 20 (Tm.mk o2 s2 n2 (aa l2)))
 letI z5:=az κ (bk {rel:=s,l:=aa l})
 letI z6:=az κ (decide (o2=(0:Int))&&bare o2 s2 n2&&decide ((↑(l2.length):Int)=(0:Int)))
 letI z7:=Value.iface 306 (Value.pointer (some (Kp.tree κ)))
 letI z8:=az κ (o2==(1:Int))
 letI z10:=az κ (bk {rel:=s,l:=aa l})
 letI z11:=K (AV.lit (bD z5 (bD z8 (bD z3 z4)))) []
 letI z13:=aC z3&&aC z4
 letI z14:=bg z3&&bg z4
 letI z17:=K (AV.lit (bD z5 z7)) []
 letI z2:=aD (decide (o1=(0:Int))&&bare o1 s1 n1&&decide ((↑(l1.length):Int)=(0:Int))) (aX (aC z5&&aC z6&&(bg z5&&bg z6)) (K (AV.lit (bD z5
  z6)) [])) (aX (aC z5&&true&&(bg z5&&true)) z17)
 letI z12:=aX (aC z5&&(true&&z13)&&(bg z5&&(true&&z14))) z17
 letI z18:=az κ (o2 != (4:Int))
 letI z19:=o1==(2:Int)
 letI z20:=K (AV.lit z7) []
 letI z15:=aX (true&&z13&&(true&&z14)) z20
 letI z1:=aD (lU s {data:= #[]}&&decide ((↑(l.length):Int)=(0:Int))) (aD (o1 != (4:Int)) (aX (aC z18&&z13&&(bg z18&&z14)) (K (AV.lit (bD z18 (bD z3 z4))) [])) z15) z15
 letI z21:=bg z5&&(bg z6&&bg z3)
 letI z22:=aC z8&&z13
 letI z23:=bg z8&&z14
 letI z9:=aC z5&&z22&&(bg z5&&z23)
 letI z16:=aX z9 (K (AV.lit (bD z10 (bD z8 (bD z3 z4)))) [])
 aD (o1==(1:Int)) (aD (op==(1:Int)) z2 (aD (op==(2:Int)) z2 (aD (op==(3:Int)) z1 (aD (op==(4:Int)) z1 (aD (op==(5:Int)) z1 (aD (op==(6
 :Int)) z1 (aD (op==(7:Int)) (aX (aC z5&&(aC z6&&aC z3)&&z21) (K (AV.lit (bD z5 (bD z6 z3))) [])) (aD (op==(8:Int)) (aX z9 z11) (aD (op==(9:
 Int)) (aX (aC z10&&z22&&(bg z5&&z23)) z11) (aD (op==(10:Int)) z16 z20)))))))))) (aD (op==(1:Int)) z2 (aD (op==(2:Int)) z2 (aD (op==(3:
 Int)) z1 (aD (op==(4:Int)) z1 (aD (op==(5:Int)) z1 (aD (op==(6:Int)) z1 (aD (op==(7:Int)) (aD z19 (aX (aC z10&&(aC z6&&aC z3)&&z21) (K
 (AV.lit (bD z10 (bD z6 z3))) [])) (aX (aC z5&&(true&&aC z3)&&(bg z5&&(true&&bg z3))) (K (AV.lit (bD z10 z7)) []))) (aD (op==(8:Int)) (aD z19 (aX
 z9 z11) z12) (aD (op==(9:Int)) (aD z19 (aX (aC z5&&z22&&(bg z10&&z23)) z11) (aX (aC z5&&(true&&z13)&&(bg z10&&(true&&z14))) z17)) (aD (op==
 (10:Int)) (aD z19 z16 z12) z20))))))))))):=by kernel_rfl
theorem Nr(κ:Kp)(b x y r:Bool):aD b (AV.lit (az κ x)=AV.lit (az κ r)) (AV.lit (az κ y)=AV.lit (az κ r))↔(AV.lit (az κ (bif b then x else y))=AV.lit (az κ r)):=by
 cases b<;>rfl
theorem Nc(a b:Int):(a==b)=decide (a=b):=by by_cases h:a=b<;>simp[h]
theorem Ha(a b:Int):(a != b)= !decide (a=b):=by by_cases h:a=b<;>simp[h]
def WX(κ:Kp):List AV->Option (Bool×AV)
 |[.agg [.lit (.int .i64 op), .agg [.lit (.string s), .ad 56 l], .agg [.lit (.int .i64 o1), .lit (.string s1), .lit (.int .i64 n1), .ad 56 l1], .agg [.lit (.int .i64 o2), .lit (.string s2), .lit (.int .i64 n2), .ad 56 l2]]]=>
  some (true, .lit (az κ (iR ⟨op,⟨s,aa l⟩, .mk o1 s1 n1 (aa l1), .mk o2 s2 n2 (aa l2)⟩)))
 |_=>none
theorem p49(κ:Kp):cU (UO κ) 12 233 (WX κ):=by
 intro args x hh
 unfold WX at hh
 split at hh
 ·rename_i op s l o1 s1 n1 l1 o2 s2 n2 l2
  simp only[aa4,ab0,true_and] at hh
  subst hh
  refine⟨_,rfl,nw κ _,?_⟩
  rw[y49]
  have ef:Value.iface 306 (.pointer (some κ.tree))=az κ false:=rfl
  rw[ef]
  simp only[mT,nw,EH,Bool.and_true,Bool.and_self,aX]
  simp only[←RY,←RC,Nc,Ha,Nr]
  refine congrArg (fun b=>AV.lit (az κ b)) ?_
  have ix:S8 (.mk o1 s1 n1 (aa l1))=(decide (o1=1)||decide (o1=2)):=rfl
  rw[Ie,ix]
  generalize bk ⟨s,aa l⟩=A
  generalize Qx ⟨s,aa l⟩=N0
  generalize Hw (.mk o1 s1 n1 (aa l1))=N1
  generalize Hw (.mk o2 s2 n2 (aa l2))=N2
  generalize au 20 (.mk o1 s1 n1 (aa l1))=R1
  generalize au 20 (.mk o2 s2 n2 (aa l2))=R2
  generalize decide (o1=1)=a1
  generalize decide (o1=2)=a2
  generalize decide (o1=4)=a4
  generalize decide (o2=4)=b4
  generalize decide (o2=1)=b1
  generalize decide (op=1)=p1
  generalize decide (op=2)=p2
  generalize decide (op=3)=p3
  generalize decide (op=4)=p4
  generalize decide (op=5)=p5
  generalize decide (op=6)=p6
  generalize decide (op=7)=p7
  generalize decide (op=8)=p8
  generalize decide (op=9)=p9
  generalize decide (op=10)=p10
  cases p1
  case true=>cases a1<;>cases N1<;>cases A<;>cases N2<;>rfl
  cases p2
  case true=>cases a1<;>cases N1<;>cases A<;>cases N2<;>rfl
  cases p3
  case true=>cases a1<;>cases N0<;>cases a4<;>cases b4<;>cases R1<;>cases R2<;>rfl
  cases p4
  case true=>cases a1<;>cases N0<;>cases a4<;>cases b4<;>cases R1<;>cases R2<;>rfl
  cases p5
  case true=>cases a1<;>cases N0<;>cases a4<;>cases b4<;>cases R1<;>cases R2<;>rfl
  cases p6
  case true=>cases a1<;>cases N0<;>cases a4<;>cases b4<;>cases R1<;>cases R2<;>rfl
  cases p7
  case true=>cases a1<;>cases a2<;>cases A<;>cases N2<;>cases R1<;>rfl
  cases p8
  case true=>cases a1<;>cases a2<;>cases A<;>cases b1<;>cases R1<;>cases R2<;>rfl
  cases p9
  case true=>cases a1<;>cases a2<;>cases A<;>cases b1<;>cases R1<;>cases R2<;>rfl
  cases p10
  case true=>cases a1<;>cases a2<;>cases A<;>cases b1<;>cases R1<;>cases R2<;>rfl
  cases a1<;>rfl
 ·cases hh
noncomputable def Ol(κ:Kp):Env:=(UO κ).aH 233 (WX κ)
theorem e49(κ:Kp):aB (Ol κ):=(e59 κ).aH (YL κ) (p49 κ)
theorem ZP(κ:Kp):aj (Ol κ):=(YL κ).aH
structure cm where
 xs:List AV
 more:List AV
 rel:ByteArray
 hl:List AV
 bl:List AV
 line:Int
 i:Int
abbrev ar(a:cm):AV:= .agg [.agg [.lit (.string a.rel), .ad 56 a.hl], .ad 72 a.bl, .int a.line]
abbrev Bf(a:cm):S:=sp 69 [(0, .cD 0),(1, .ptr 1 0 [] 0),(25, .ad 56 a.hl),(26, .int a.hl.length),(27, .int a.i)] [.ext (some a.xs), .box 66 (ar a)]
abbrev Lc(a:cm):S:=sp 69 [(0, .cD 0),(57, .ad 72 a.bl),(58, .int a.bl.length),(59, .int a.i)] [.ext (some a.xs), .box 66 (ar a)]
def mz(κ:Kp)(l:List Bool):List AV:=l.map fun b=> .bh [.lit (az κ b)]
def AD(κ:Kp)(a:cm):Prop:=a.hl.length<=aR/\0<=a.i/\a.i<=a.hl.length/\a.xs=mz κ ((aa (a.hl.drop a.i.toNat)).map (qq a.bl.length))++a.more
def GL(κ:Kp)(a:cm):Prop:=a.bl.length<=aR/\0<=a.i/\a.i<=a.bl.length/\a.xs=mz κ ((dg (a.bl.drop a.i.toNat)).map iR)
def Dy(a:cm):Out (Exit×S):= .all (fun _:Bool=>True) fun b=> .aD b (.one (.exit 0,sp 69 [(0, .cD 0),(1, .ptr 1 0 [] 0)] [.ext (some a.more), .box 66 (ar a)]))
 (.one (.ret,sp 69 [] [.ext none, .box 66 (ar a)]))
def Ly(a:cm):Out (Exit×S):= .all (fun _:Bool=>True) fun b=> .aD b (.one (.exit 2,sp 69 [] [.ext (some []), .box 66 (ar a)]))
 (.one (.ret,sp 69 [] [.ext none, .box 66 (ar a)]))
theorem YA(κ:Kp)(a:cm)(I:Nat->S->Prop)(n:Nat)(K:Exit->S->Prop):(vc (Ol κ) 12 229 none 2 (af (Pr κ).toProgram 229 2) (Bf a) (bK (Ol κ) 229 2 2 I n K))=(
 letI z2:=IntKind.wrap IntKind.i64 (a.i+(1:Int))
 letI z3:=sp 69 [] [Obj.ext none,Obj.box 66 (ar a)]
 letI z4:=ae (nth a.hl a.i.toNat) 0
 letI z5:=a.hl.length
 letI z1:=∃(e1:List AV),a.xs=AV.bh [AV.lit (Value.iface 306 (Value.pointer (some (Kp.tree κ))))]::e1/\(∃(e0:Nat),e0<n/\I e0 (sp 69 [(0,AV.cD
  0),(1,AV.ptr 1 0 [] 0),(25,AV.ad 56 a.hl),(26,AV.int (↑z5:Int)),(27,AV.int z2)] [Obj.ext (some e1),Obj.box 66 (ar a)]))/\K Exit.ret z3
 aD (decide (a.i<(↑z5:Int))) (aX (decide ((0:Int)<=a.i)&&decide (a.i<(↑z5:Int))) (aD (toInt z4 != (4:Int)) (aD (!kO (toInt z4)) (aD (toInt z4 !=
 (1:Int)) (∃(e1:List AV),a.xs=AV.bh [AV.lit Value.nilIface]::e1/\(∃(e0:Nat),e0<n/\I e0 (sp 69 [(0,AV.cD 0),(1,AV.ptr 1 0 [] 0),(25,AV.ad
 56 a.hl),(26,AV.int (↑z5:Int)),(27,AV.int z2)] [Obj.ext (some e1),Obj.box 66 (ar a)]))/\K Exit.ret z3) (∃(e1:List AV),a.xs=AV.bh [AV.lit (az κ
 (decide ((↑(a.bl.length):Int)>(0:Int))))]::e1/\(∃(e0:Nat),e0<n/\I e0 (sp 69 [(0,AV.cD 0),(1,AV.ptr 1 0 [] 0),(25,AV.ad 56 a.hl),(26,
 AV.int (↑z5:Int)),(27,AV.int z2)] [Obj.ext (some e1),Obj.box 66 (ar a)]))/\K Exit.ret z3)) z1) z1)) (K (Exit.exit 0) (sp 69 [(0,AV.cD 0),(1,AV.ptr 1 0
 [] 0)] [Obj.ext (some a.xs),Obj.box 66 (ar a)]))):=by kernel_rfl
theorem Xg(κ:Kp):bj (Ol κ) 12 229 2 (aO 2 Bf (AD κ) Dy):=by
 refine aK (fun a=>a.hl.length - a.i.toNat) ?_
 rintro⟨xs,more,rel,hl,bl,line,i⟩ K ⟨h1,h2,h3,h4⟩ ho
 simp only at h1 h2 h3 h4
 rw[show(Ol κ).P=Pr κ from rfl,YA]
 have ef:Value.iface 306 (.pointer (some κ.tree))=az κ false:=rfl
 have et:Value.nilIface=az κ true:=rfl
 have ho1:=ho true trivial
 have ho2:=ho false trivial
 simp only[Out.run,aD] at ho1 ho2
 simp only[ef,et]
 simp only[aR] at h1
 simp only[ah,aq,aa1,aa3,aa2]
 refine⟨fun hi=>⟨⟨h2,hi⟩,?_⟩,fun hi=>?_⟩
 ·rw[eI hl i.toNat (by omega)] at h4
  have hop:(cR (nth hl i.toNat)).op=toInt (ae (nth hl i.toNat) 0):=by rw[dh];rfl
  simp only[ac1,mz,qq,hop,List.cons_append] at h4
  rw[aW (n:=i+1) (by omega) (by omega)]
  have go: ∀b,b=(!decide (toInt (ae (nth hl i.toNat) 0)=4)&& !kO (toInt (ae (nth hl i.toNat) 0))&&(!decide (toInt (ae (nth hl i.toNat) 0)=1)||decide (0<bl.length)))->
    ∃rest,xs=AV.bh [AV.lit (az κ b)]::rest/\(∃m,m<hl.length - i.toNat/\fq Bf (AD κ) Dy (fun a=>a.hl.length - a.i.toNat) K m (Bf ⟨rest,more,rel,hl,bl,line,i+1⟩))/\K Exit.ret (sp 69 [] [.ext none, .box 66 (ar ⟨xs,more,rel,hl,bl,line,i⟩)]):=by
   rintro b rfl
   refine⟨_,h4,⟨_,?_,⟨_,more,rel,hl,bl,line,i+1⟩,rfl,⟨by simpa[aR] using h1,by simp only;omega,by simp only;omega,?_⟩,rfl,ho⟩,ho2⟩
   ·simp only;omega
   ·simp only[mz,show(i+1).toNat=i.toNat+1 by omega]
  simp only[Ha,Bool.not_eq_true',ab3,aa1,aa3]
  refine⟨fun e1=>⟨fun e2=>⟨fun e3=>go _ ?_,fun e3=>go _ ?_⟩,fun e2=>go _ ?_⟩,fun e1=>go _ ?_⟩
  ·simp[e1,e2,e3]
  ·have e4:decide ((bl.length:Int)>0)=decide (0<bl.length):=by
    by_cases h:0<bl.length
    ·rw[aa7 h,aa7 (by omega)]
    ·rw[aa5 h,aa5 (by omega)]
   rw[e4]
   simp[e2,e3]
   intro _;rfl
  ·simp[e2]
  ·simp[e1]
 ·rw[aa9 (by omega)] at h4
  simp only[aa,mz,ac2,List.nil_append] at h4
  subst h4
  exact ho1
noncomputable def zA(κ:Kp):Env:=(Ol κ).ak 229 2 (aO 2 Bf (AD κ) Dy)
theorem XK(κ:Kp):aB (zA κ):=(e49 κ).ak (ZP κ) (Xg κ)
theorem U6(κ:Kp):aj (zA κ):=(ZP κ).ak aG
theorem XR(κ:Kp)(a:cm)(I:Nat->S->Prop)(n:Nat)(K:Exit->S->Prop):(vc (zA κ) 12 229 none 2 (af (Pr κ).toProgram 229 7) (Lc a) (bK (zA κ) 229 7 2 I n K))=(
 letI z1:=nth a.bl a.i.toNat
 letI z2:=AV.agg [AV.agg [AV.str a.rel,AV.ad 56 a.hl],AV.ad 72 a.bl,AV.int a.line]
 letI z3:=a.i<(↑(a.bl.length):Int)
 aD (decide z3) (aX (decide ((0:Int)<=a.i)&&decide z3) (∃(e1:List AV),a.xs=AV.bh [AV.lit (az κ (iR {op:=toInt (ae z1 0),a:={rel:=toStr (ae (ae z1 1) 0),l:=aa (ai (ae (ae z1 1) 1))},x:=Tm.mk (toInt (ae (ae z1 2) 0)) (toStr (ae (ae z1 2) 1)) (toInt (ae (ae z1 2) 2)) (aa (ai (ae (ae z1 2) 3))),y:=Tm.mk (toInt (ae (ae z1 3) 0)) (toStr (ae (ae z1 3) 1)) (toInt (ae (ae z1 3) 2)) (aa (ai (ae (ae z1 3) 3)))}))]::e1/\(∃(e0:Nat),e0<n/\I e0 (sp 69 [(0,AV.cD 0),(57,AV.ad 72 a.bl),(58,AV.int (↑(a.bl.length):Int)),(59,AV.int (IntKind.wrap IntKind.i64 (a.i+(1:Int))))] [Obj.ext (some e1),Obj.box 66 z2]))/\K Exit.ret (sp 69 [] [Obj.ext none,Obj.box 66 z2]))) (K (Exit.exit 2) (sp 69 [] [Obj.ext (some a.xs),Obj.box 66 z2]))):=by kernel_rfl
theorem X6(κ:Kp):bj (zA κ) 12 229 7 (aO 2 Lc (GL κ) Ly):=by
 refine aK (fun a=>a.bl.length - a.i.toNat) ?_
 rintro⟨xs,more,rel,hl,bl,line,i⟩ K ⟨h1,h2,h3,h4⟩ ho
 simp only at h1 h2 h3 h4
 rw[show(zA κ).P=Pr κ from rfl,XR]
 have ho1:=ho true trivial
 have ho2:=ho false trivial
 simp only[Out.run,aD] at ho1 ho2
 simp only[aR] at h1
 simp only[ah,aq,aa1,aa3,aa2,←lt_eq]
 refine⟨fun hi=>⟨⟨h2,hi⟩,?_⟩,fun hi=>?_⟩
 ·rw[nE bl i.toNat (by omega)] at h4
  simp only[ac1,mz] at h4
  rw[aW (n:=i+1) (by omega) (by omega)]
  refine⟨_,h4,⟨_,?_,⟨_,more,rel,hl,bl,line,i+1⟩,rfl,⟨by simpa[aR] using h1,by simp only;omega,by simp only;omega,?_⟩,rfl,ho⟩,ho2⟩
  ·simp only;omega
  ·simp only[mz,show(i+1).toNat=i.toNat+1 by omega]
 ·rw[aa9 (by omega)] at h4
  simp only[dg,mz,ac2] at h4
  subst h4
  exact ho1
noncomputable def LR(κ:Kp):Env:=(zA κ).ak 229 7 (aO 2 Lc (GL κ) Ly)
theorem W0(κ:Kp):aB (LR κ):=(XK κ).ak (U6 κ) (X6 κ)
theorem TL(κ:Kp):aj (LR κ):=(U6 κ).ak aG
theorem y45(κ:Kp)(a:cm)(K:AV->List Dn.Obj->Prop):(a8 (LR κ) 12 229 [.cD 0, .ptr 1 0 [] 0] [.ext (some a.xs), .box 66 (ar a)] K)=(
 letI z1:=AV.agg [AV.agg [AV.str a.rel,AV.ad 56 a.hl],AV.ad 72 a.bl,AV.int a.line]
 letI z2:=Pg.toProgram (Env.P (Ol κ))
 letI z3:=Pg.toProgram (Env.P (zA κ))
 ∃(e5:List AV),a.xs=AV.bh [AV.lit (az κ (bk {rel:=a.rel,l:=aa a.hl}))]::e5/\(∃(e4:List AV),e5=AV.bh [AV.lit (az κ (decide ((↑(a.bl.length):Int)<=(20:Int))))]::e4/\(af z2 229 2=af z2 229 2/\∃(e3:cm),sp 69 [(0,AV.cD 0),(1,AV.ptr 1 0 [] 0),(25,AV.ad 56 a.hl),(26,AV.int (↑(a.hl.length):Int)),(27,AV.int 0)] [Obj.ext (some e4),Obj.box 66 z1]=sp 69 [(0,AV.cD 0),(1,AV.ptr 1 0 [] 0),(25,AV.ad 56 e3.hl),(26,AV.int (↑(e3.hl.length):Int)),(27,AV.int e3.i)] [Obj.ext (some e3.xs),Obj.box 66 (AV.agg [AV.agg [AV.str e3.rel,AV.ad 56 e3.hl],AV.ad 72 e3.bl,AV.int e3.line])]/\(e3.hl.length<=9223372036854775807/\(0:Int)<=e3.i/\e3.i<=(↑(e3.hl.length):Int)/\e3.xs=mz κ (List.map (qq e3.bl.length) (aa (List.drop e3.i.toNat e3.hl)))++e3.more)/\∀(e2:Bool),True->aD e2 (af z3 229 7=af z3 229 7/\∃(e1:cm),sp 69 [(0,AV.cD 0),(57,AV.ad 72 e3.bl),(58,AV.int (↑(e3.bl.length):Int)),(59,AV.int 0)] [Obj.ext (some e3.more),Obj.box 66 (AV.agg [AV.agg [AV.str e3.rel,AV.ad 56 e3.hl],AV.ad 72 e3.bl,AV.int e3.line])]=sp 69 [(0,AV.cD 0),(57,AV.ad 72 e1.bl),(58,AV.int (↑(e1.bl.length):Int)),(59,AV.int e1.i)] [Obj.ext (some e1.xs),Obj.box 66 (AV.agg [AV.agg [AV.str e1.rel,AV.ad 56 e1.hl],AV.ad 72 e1.bl,AV.int e1.line])]/\(e1.bl.length<=9223372036854775807/\(0:Int)<=e1.i/\e1.i<=(↑(e1.bl.length):Int)/\e1.xs=mz κ (List.map iR (dg (List.drop e1.i.toNat e1.bl))))/\∀(e0:Bool),True->aD e0 (K (AV.bh []) [Obj.ext (some []),Obj.box 66 (AV.agg [AV.agg [AV.str e1.rel,AV.ad 56 e1.hl],AV.ad 72 e1.bl,AV.int e1.line])]) (K (AV.bh []) [Obj.ext none,Obj.box 66 (AV.agg [AV.agg [AV.str e1.rel,AV.ad 56 e1.hl],AV.ad 72 e1.bl,AV.int e1.line])])) (K (AV.bh []) [Obj.ext none,Obj.box 66 (AV.agg [AV.agg [AV.str e3.rel,AV.ad 56 e3.hl],AV.ad 72 e3.bl,AV.int e3.line])]))/\K (AV.bh []) [Obj.ext none,Obj.box 66 z1])/\K (AV.bh []) [Obj.ext none,Obj.box 66 z1]):=by kernel_rfl
def MW(a:cm):List AV×List Dn.Obj:=([.cD 0, .ptr 1 0 [] 0],[.ext (some a.xs), .box 66 (ar a)])
def D4(κ:Kp)(a:cm):Prop:=a.hl.length<=aR/\a.bl.length<=aR/\a.xs=mz κ (rX ⟨⟨a.rel,aa a.hl⟩,dg a.bl⟩)
def Mp:cm->Out (AV×List Dn.Obj):=fun _=> .all (fun st'=>rA st') fun st'=> .one (.bh [],st')
theorem c45(κ:Kp):bt (LR κ) 12 229 (aL MW (D4 κ) Mp):=by
 refine aZ ?_
 rintro⟨xs,more,rel,hl,bl,line,i⟩ K ⟨h1,h2,h3⟩ ho
 simp only at h1 h2 h3
 simp only[MW]
 rw[y45 κ ⟨xs,more,rel,hl,bl,line,i⟩]
 simp only
 have hn: ∀b,K (.bh []) [.ext none,b]:=fun b=>ho _ trivial
 have h0: ∀b,K (.bh []) [.ext (some []),b]:=fun b=>ho _ trivial
 subst h3
 have V5:decide ((bl.length:Int)<=20)=decide (bl.length<=20):=by
  by_cases h:bl.length<=20
  ·rw[aa7 h,aa7 (by omega)]
  ·rw[aa5 h,aa5 (by omega)]
 rw[V5]
 simp only[rX,mz,ac1,zo]
 refine⟨_,rfl,⟨_,rfl,⟨trivial,⟨_,mz κ ((dg bl).map iR),rel,hl,bl,line,0⟩,rfl,⟨h1,by simp only;omega,by simp only;omega,?_⟩,?_⟩,hn _⟩,hn _⟩
 ·simp[mz,zo]
 ·intro y _
  cases y
  ·exact hn _
  ·refine⟨trivial,⟨_,[],rel,hl,bl,line,0⟩,rfl,⟨h2,by simp only;omega,by simp only;omega,by simp[mz]⟩,?_⟩
   intro y _
   cases y
   ·exact hn _
   ·exact h0 _
set_option maxRecDepth 20000 in
noncomputable def PW(κ:Kp):Env:=(LR κ).ax 229 (aL MW (D4 κ) Mp)
theorem e45(κ:Kp):aB (PW κ):=(W0 κ).ax (TL κ) (c45 κ)
theorem ZJ(κ:Kp):aj (PW κ):=(TL κ).ax aJ
noncomputable abbrev Rr(κ:Kp)(a:cm)(st:LoopState)(p:Option Code):Dn.Obj:=
 .loop (gl (Pr κ).toProgram 111 3 st p (fW (bG 15) [(0,ar a),(1, .ptr 0 0 [] 0),(2, .bool false),(3, .ptr 1 0 [] 0),(5,ar a),(6, .bL 229 [.ptr 2 0 [] 0])]))
noncomputable abbrev pB(κ:Kp)(a:cm):List Dn.Obj:=[.box 66 (ar a), .box 170 (.lit .nilIface), .box 66 (ar a),Rr κ a .ready none]
noncomputable abbrev Eg(κ:Kp)(a:cm):List Dn.Obj:=[.box 66 (ar a), .box 170 (.lit .nilIface), .dead,Rr κ a .ready none]
theorem s16(κ:Kp)(a:cm)(Q:List Dn.Obj->Prop):(tidy (Pr κ).toProgram 4 (dV (pB κ a) (cz (pB κ a) [.ptr 2 0 [] 0])) Q)=(
 Q [Obj.box 66 (ar a),Obj.box 170 (AV.lit Value.nilIface),Obj.dead,Dn.Obj.loop (gl Tryz.prog 111 3 LoopState.ready none (fW (bG 15) [(0,ar a),(1,AV.ptr 0 0
 [] 0),(2,AV.bool false),(3,AV.ptr 1 0 [] 0),(5,ar a),(6,AV.bL 229 [AV.ptr 2 0 [] 0])]))]):=by kernel_rfl
theorem r16(κ:Kp)(a:cm)(u:Value)(Q:List Dn.Obj->Prop)(K2:List Dn.Obj->Prop):(gW (vc (PW κ) 12) 3 [.lit u] (Eg κ a) (fun r st''=>match r with| .lit (.bool true)=>tidy (Pr κ).toProgram 4 st'' Q| .lit (.bool false)=>K2 st''|_=>False))=(
 letI z1:=fW (bG 15) [(0,ar a),(1,AV.ptr 0 0 [] 0),(2,AV.bool false),(3,AV.ptr 1 0 [] 0),(5,ar a),(6,AV.bL 229 [AV.ptr 2 0 [] 0])]
 aX (aC u) (aD (!bM u) (K2 [Obj.box 66 (ar a),Obj.box 170 (AV.lit u),Obj.dead,Dn.Obj.loop (gl Tryz.prog 111 3 LoopState.done (some (Code.exit 0)) z1)]) (Q
 [Obj.box 66 (ar a),Obj.box 170 (AV.lit Value.nilIface),Obj.dead,Dn.Obj.loop (gl Tryz.prog 111 3 LoopState.ready none z1)]))):=by kernel_rfl
noncomputable abbrev QJ(κ:Kp)(a:cm):List Dn.Obj:=[.box 66 (ar a), .box 170 (.lit (az κ false)), .dead,Rr κ a .done (some (.exit 0))]
def uL(a:cm):Rl:=⟨⟨a.rel,aa a.hl⟩,dg a.bl⟩
theorem k16(κ:Kp)(a:cm)(xs:List AV):(AV.cD 0::fU (jG (cz (pB κ a) [.ptr 2 0 [] 0])) [.ptr 2 0 [] 0],Obj.ext (some xs)::gA (jG (cz (pB κ a) [.ptr 2 0 [] 0])) (gT (pB κ a) (cz (pB κ a) [.ptr 2 0 [] 0])))=MW {a with xs:=xs}:=by kernel_rfl
theorem o16(κ:Kp)(a:cm):oi (pB κ a) [.ptr 2 0 [] 0]=true:=by kernel_rfl
noncomputable def Qr(κ:Kp):dC:=fun caps st K=>∃a:cm,(caps,st)=([AV.ptr 2 0 [] 0],pB κ a)/\(a.hl.length<=aR/\a.bl.length<=aR)/\aD (aM (uL a)) (K (Eg κ a)) (K (QJ κ a))
theorem H2(κ:Kp):(Qr κ).ji:=by
 rintro caps st K K' hK ⟨a,h1,h2,h3⟩
 refine⟨a,h1,h2,?_⟩
 rw[ah] at h3⊢
 exact⟨fun e=>hK _ (h3.1 e),fun e=>hK _ (h3.2 e)⟩
theorem call45(κ:Kp)(args:List AV)(st:List Dn.Obj)(K:AV->List Dn.Obj->Prop)(h:aL MW (D4 κ) Mp args st K):(PW κ).call 229 args st K:=h
theorem Xj(κ:Kp):lq (PW κ) 12 229 (Qr κ):=by
 rintro caps st K ⟨a,h1,h2,h3⟩
 obtain⟨rfl,rfl⟩:=Prod.mk.inj h1
 rw[ah] at h3
 refine⟨mz κ (rX (uL a)),fun items st'=>∃l,items=mz κ l/\st'=Eg κ a/\aM (uL a)=l.all id,⟨o16 κ a,?_,?_,?_,?_⟩⟩
 ·refine call45 κ _ _ _ ?_
  refine⟨{a with xs:=mz κ (rX (uL a))},?_,⟨h2.1,h2.2,rfl⟩,fun st' h=>h⟩
  exact k16 κ a _
 ·rw[show(PW κ).P=Pr κ from rfl,show(pB κ a).length=4 from rfl,s16]
  exact⟨_,rfl,rfl,DY _⟩
 ·rintro us rest st' ⟨l,e1,rfl,e3⟩
  cases l with
  |nil=>cases e1
  |cons b l=>
   simp only[mz,ac1,List.cons.injEq,AV.bh.injEq] at e1
   obtain⟨rfl,rfl⟩:=e1
   rw[show(PW κ).P=Pr κ from rfl,show(pB κ a).length=4 from rfl]
   refine Eq.mpr (r16 κ a (az κ b) _ _) ?_
   rw[mT,pO]
   cases b with
   |true=>exact⟨l,rfl,rfl,by rw[e3];rfl⟩
   |false=>exact h3.2 (by rw[e3];rfl)
 ·rintro st' ⟨l,e1,rfl,e3⟩
  cases l with
  |nil=>exact h3.1 (by rw[e3];rfl)
  |cons b l=>cases e1
def Xc:List Nat:=[229]
noncomputable def QL(κ:Kp):Env:=((PW κ).addRange 111 3 229 (Qr κ)).dv (fun f=>jm f Xc)
theorem Wl(κ:Kp):aB (QL κ):=((e45 κ).addRange (ZJ κ) (Xj κ)).dv _
theorem Xp(κ:Kp):aj (QL κ):=((ZJ κ).addRange (H2 κ)).dv _
end Go.Proofs.YthaiinlfnommnaaGreatDoor
namespace Go.Proofs.YthaiinlfnommnaaGreatDoor
open Go Go.Dn Go.Rl Go.Proofs Go.RowKit Go.Extern.Stop Go.Stop Go.Extern
theorem uO(v:Value)(w:World):(Extern.ReflectliteType.typeOf #[.iface 306 v]).run Tryz.prog w= .ok (.iface 282 (.agg #[.pointer (some ⟨5,306,none⟩)])) w:=by kernel_rfl
theorem mX(w:World):((Extern.ReflectliteType.method fun t=>do Go.Extern.Rtype.noPackHeld "Comparable" t;(fun a=>Value.bool a.comparable)<$>typeInfo t) #[.agg #[.pointer (some ⟨5,306,none⟩)]]).run Tryz.prog w= .ok (.bool true) w:=by kernel_rfl
theorem iE(v:Value)(w:World):(Go.method 443 282 v "Comparable").run Tryz.prog w= .ok (290,v) w:=by kernel_rfl
theorem Fw:(Tryz.prog.info? 306).map (·.comparable)=some true:=by kernel_rfl
theorem Em:(Tryz.prog.info? 331).map (·.size)=some 1:=by kernel_rfl
set_option maxRecDepth 4000 in
theorem GW(a:Addr)(w:World):
  Calls Tryz.prog 113 #[.iface 306 (.pointer (some a)), .iface 306 (.pointer (some a))] w fun e w'=>e= .returned (.bool true)/\w'=w:=by
 obtain⟨i,hi,hcmp⟩:=Option.map_eq_some_iff.1 Fw
 obtain⟨j,hj,hjs⟩:=Option.map_eq_some_iff.1 Em
 have h8:= @run_callFunc_extern Tryz.prog 184 _ Extern.ReflectliteType.typeOf Tryz.func184 (by kernel_rfl) (by kernel_rfl) (by kernel_rfl) (by kernel_rfl)
 have h32:= @run_callFunc_extern Tryz.prog 290 _ (Extern.ReflectliteType.method fun t=>do Go.Extern.Rtype.noPackHeld "Comparable" t;pure (.bool (←typeInfo t).comparable)) Tryz.func290 (by kernel_rfl) (by kernel_rfl) (by kernel_rfl) (by kernel_rfl)
 have tT:=uO
 have cT:=mX
 have mR:=iE
 have heq:=run_eql_iface_ptr_same (P:=Tryz.prog) w a Tryz.underlying170 Tryz.underlying306 hi hcmp hj
 go_enter Tryz.func113,Tryz.ntmps113
 go_wp2
 refine wp_loop_rounds 1 ?_
 rw[rounds_succ]
 go_wp2
 go_ret
 exact⟨rfl,rfl⟩
theorem Lg(b:Addr)(w:World):
  Calls Tryz.prog 113 #[.nilIface, .iface 306 (.pointer (some b))] w fun e w'=>e= .returned (.bool false)/\w'=w:=by
 have hn:=run_eql_iface_nil_left (P:=Tryz.prog) w 306 (.pointer (some b)) Tryz.underlying170
 go_enter Tryz.func113,Tryz.ntmps113
 go_wp2
 go_ret
 exact⟨rfl,rfl⟩
def XE:List AV->Option (Bool×AV)
 |[.lit .nilIface, .lit (.iface 306 (.pointer (some _)))]=>some (true, .bool false)
 |[.lit (.iface 306 (.pointer (some a))), .lit (.iface 306 (.pointer (some b)))]=>some (decide (a=b), .bool true)
 |_=>none
theorem wb{C:Ctx}{u v:Value}{vs:Array Value}(h:MT C [.lit u, .lit v] vs.toList):vs= #[u,v]:=by
 obtain⟨l⟩:=vs
 match l,h with
 |[a,b],h=>
  simp only[MT] at h
  have h1:Rel C (.lit u) a:=⟨h.1,h.2.1,h.2.2.1⟩
  have h2:Rel C (.lit v) b:=⟨h.2.2.2.1,h.2.2.2.2.1,h.2.2.2.2.2.1⟩
  rw[aQ h1,aQ h2]
 |[],h=>simp[MT] at h
 |[_],h=>simp[MT] at h
 |_::_::_::_,h=>simp[MT] at h
theorem qIs(κ:Kp):iB (Pr κ) 113 XE:=by
 intro args x hn hg
 unfold XE at hg
 split at hg
 ·simp only[aa4,ab0,true_and] at hg
  subst hg
  refine⟨_,_,Tryz.func113,rfl,rfl,rfl,fun C vs hC hI hm=>?_⟩
  rw[wb hm]
  refine(callsIn_wide.2 (Lg _ C.w)).mono ?_
  rintro e w' ⟨rfl,rfl⟩
  exact⟨rfl,gU.refl _⟩
 ·simp only[aa4,ab0,aa1] at hg
  obtain⟨rfl,rfl⟩:=hg
  refine⟨_,_,Tryz.func113,rfl,rfl,rfl,fun C vs hC hI hm=>?_⟩
  rw[wb hm]
  refine(callsIn_wide.2 (GW _ C.w)).mono ?_
  rintro e w' ⟨rfl,rfl⟩
  exact⟨rfl,gU.refl _⟩
 ·cases hg
end Go.Proofs.YthaiinlfnommnaaGreatDoor
namespace Go.Proofs.YthaiinlfnommnaaGreatDoor
open Go Go.Dn Go.Rl Go.Proofs
attribute [local irreducible] a8 vc
set_option maxRecDepth 20000
noncomputable def Uo(κ:Kp):Env:=(QL κ).aH 113 XE
theorem eIs(κ:Kp):aB (Uo κ):=(Wl κ).fp (qIs κ)
theorem Zg(κ:Kp):aj (Uo κ):=(Xp κ).aH
theorem y16(κ:Kp)(a:cm)(K:AV->List Dn.Obj->Prop):(a8 (Uo κ) 12 111 [ar a] [] K)=(
 ∃(e0:cm),([AV.ptr 2 0 [] 0],[Obj.box 66 (ar a),Obj.box 170 (AV.lit Value.nilIface),Obj.box 66 (ar a),Dn.Obj.loop (gl Tryz.prog 111 3 LoopState.ready
 none (fW (bG 15) [(0,ar a),(1,AV.ptr 0 0 [] 0),(2,AV.bool false),(3,AV.ptr 1 0 [] 0),(5,ar a),(6,AV.bL 229 [AV.ptr 2 0 [] 0])]))])=([AV.ptr 2 0 []
 0],[Obj.box 66 (ar e0),Obj.box 170 (AV.lit Value.nilIface),Obj.box 66 (ar e0),Dn.Obj.loop (gl Tryz.prog 111 3 LoopState.ready none (fW (bG 15) [(0,ar e0),
 (1,AV.ptr 0 0 [] 0),(2,AV.bool false),(3,AV.ptr 1 0 [] 0),(5,ar e0),(6,AV.bL 229 [AV.ptr 2 0 [] 0])]))])/\(e0.hl.length<=9223372036854775807/\
 e0.bl.length<=9223372036854775807)/\aD (aM (uL e0)) (K (AV.bool true) []) (aX (decide (Kp.tree κ=Kp.tree κ)) (K (AV.bool false) []))):=by kernel_rfl
def g16:List AV->Option (Bool×AV)
 |[.agg [.agg [.lit (.string rel), .ad 56 hl], .ad 72 bl, .lit (.int .i64 _)]]=>some (decide (hl.length<=aR)&&decide (bl.length<=aR), .bool (aM ⟨⟨rel,aa hl⟩,dg bl⟩))
 |_=>none
theorem p16(κ:Kp):cU (Uo κ) 12 111 g16:=by
 intro args x hh
 unfold g16 at hh
 split at hh
 ·rename_i rel hl bl line
  simp only[aa4,ab0,aa2,aa1] at hh
  obtain⟨⟨h1,h2⟩,rfl⟩:=hh
  refine⟨_,rfl,rfl,?_⟩
  rw[y16 κ ⟨[],[],rel,hl,bl,line,0⟩]
  refine⟨⟨[],[],rel,hl,bl,line,0⟩,rfl,⟨h1,h2⟩,?_⟩
  rw[ah]
  refine⟨fun e=>?_,fun e=>?_⟩
  ·rw[show aM ⟨⟨rel,aa hl⟩,dg bl⟩=true from e]
  ·rw[show aM ⟨⟨rel,aa hl⟩,dg bl⟩=false from e]
   simp[aX]
 ·cases hh
noncomputable def VR(κ:Kp):Env:=(Uo κ).aH 111 g16
theorem Zp(κ:Kp):aB (VR κ):=(eIs κ).aH (Zg κ) (p16 κ)
theorem YF(κ:Kp):aj (VR κ):=(Zg κ).aH
def Rv(l:List AV):List AV×List Dn.Obj:=([.ad 56 l],[])
def QC(n:Nat)(l:List AV):Prop:=a6 (aa l)=n/\n<=100000
def Jq(l:List AV):Out (AV×List Dn.Obj):= .one (.an 0 0 (ay (aa l)).length,[.row 9 (strs (ay (aa l)))])
def Mg(n:Nat):dr:=aL Rv (QC n) Jq
noncomputable def yZ(κ:Kp)(r:Nat):Env:=(VR κ).ax 182 fun args st K=>∃m,m<r/\Mg m args st K
theorem x31(κ:Kp)(r:Nat)(l:List AV)(i:Int)(xs:List AV)(k:Nat)(I:Nat->S->Prop)(n:Nat)(K:Exit->S->Prop):(vc (yZ κ r) 12 182 none 0 (af (Pr κ).toProgram 182 3) (sp 27 [(3, .an 0 0 k),(6, .ad 56 l),(7, .int l.length),(8, .int i)] [.row 9 xs]) (bK (yZ κ r) 182 3 0 I n K))=(
 letI z1:=IntKind.wrap IntKind.i64 (i+(1:Int))
 letI z2:=nth l i.toNat
 letI z3:=i<(↑(l.length):Int)
 aD (decide z3) (aX (decide ((0:Int)<=i)&&decide z3) (aD (toInt (ae z2 0)==(1:Int)) (aX (decide ((k+1+1)*17<=70368744177664)) (∃(e2:Nat),e2<
 r/\∃(e1:List AV),([AV.ad 56 (ai (ae z2 3))],aI)=([AV.ad 56 e1],aI)/\(a6 (aa e1)=e2/\e2<=100000)/\aX (decide ((k+1+List.length (List.take
 (List.length (ay (aa e1))) (List.drop 0 (strs (ay (aa e1)))))+1)*17<=70368744177664)) (∃(e0:Nat),e0<n/\I e0 (sp 27 [(3,AV.an 0 0 (k+1+
 List.length (List.take (List.length (ay (aa e1))) (List.drop 0 (strs (ay (aa e1))))))),(6,AV.ad 56 l),(7,AV.int (↑(l.length):Int)),(8,AV.int z1)]
 [Obj.row 9 (List.take (k+1) (List.take k xs++[AV.str (toStr (ae z2 1))])++List.take (List.length (ay (aa e1))) (List.drop 0 (strs (ay (aa e1)))))])))) (∃
 (e2:Nat),e2<r/\∃(e1:List AV),([AV.ad 56 (ai (ae z2 3))],aI)=([AV.ad 56 e1],aI)/\(a6 (aa e1)=e2/\e2<=100000)/\aX (decide ((k+List.length
 (List.take (List.length (ay (aa e1))) (List.drop 0 (strs (ay (aa e1)))))+1)*17<=70368744177664)) (∃(e0:Nat),e0<n/\I e0 (sp 27 [(3,AV.an 0 0 (k+
 List.length (List.take (List.length (ay (aa e1))) (List.drop 0 (strs (ay (aa e1))))))),(6,AV.ad 56 l),(7,AV.int (↑(l.length):Int)),(8,AV.int z1)]
 [Obj.row 9 (List.take k xs++List.take (List.length (ay (aa e1))) (List.drop 0 (strs (ay (aa e1)))))]))))) (K (Exit.exit 0) (sp 27 [(3,AV.an 0 0 k)] [Obj.row
 9 xs]))):=by kernel_rfl
abbrev G2(a:List AV×Int×List ByteArray):S:=sp 27 [(3, .an 0 0 a.2.2.length),(6, .ad 56 a.1),(7, .int a.1.length),(8, .int a.2.1)] [.row 9 (strs a.2.2)]
def GF(r:Nat)(a:List AV×Int×List ByteArray):Prop:=a.1.length<=aR/\0<=a.2.1/\a.2.1<=a.1.length/\a6 (aa (a.1.drop a.2.1.toNat))<=r/\a.2.2.length+a6 (aa (a.1.drop a.2.1.toNat))<=100000
def wc(a:List AV×Int×List ByteArray):Out (Exit×S):= .one (.exit 0,sp 27 [(3, .an 0 0 (a.2.2++ay (aa (a.1.drop a.2.1.toNat))).length)] [.row 9 (strs (a.2.2++ay (aa (a.1.drop a.2.1.toNat))))])
theorem Gz(l:List AV)(i:Nat)(h:i<l.length):a6 (aa (l.drop i))=1+a6 (aa (ai (ae (nth l i) 3)))+a6 (aa (l.drop (i+1))):=by
 rw[eI l i h,a6,dh,Tm.jf]
theorem MB(l:List AV)(i:Nat)(h:i<l.length):ay (aa (l.drop i))=(bif decide (toInt (ae (nth l i) 0)=1) then[toStr (ae (nth l i) 1)] else[])++ay (aa (ai (ae (nth l i) 3)))++ay (aa (l.drop (i+1))):=by
 rw[eI l i h,ay,dh,Tm.vars]
theorem l31(κ:Kp)(r:Nat):bj (yZ κ r) 12 182 3 (aO 0 G2 (GF r) wc):=by
 refine aK (fun a=>a.1.length - a.2.1.toNat) ?_
 rintro⟨l,i,vs⟩ K ⟨h1,h2,h3,h4,h5⟩ ho
 simp only at h1 h2 h3 h4 h5
 rw[show(yZ κ r).P=Pr κ from rfl]
 refine Eq.mpr (x31 κ r l i (strs vs) vs.length _ _ K) ?_
 simp only[ab1,cX]
 simp only[aR] at h1
 simp only[ah,aq,aa1,aa3,aa2,beq_iff_eq,beq_eq_false_iff_ne]
 refine⟨fun hi=>⟨⟨h2,hi⟩,?_⟩,fun hi=>?_⟩
 ·have hc:=Gz l i.toNat (by omega)
  have hv:=MB l i.toNat (by omega)
  have hle:=cx (aa (ai (ae (nth l i.toNat) 3)))
  rw[aW (n:=i+1) (by omega) (by omega)]
  refine⟨fun e1=>⟨by omega,_,?_,ai (ae (nth l i.toNat) 3),rfl,⟨rfl,by omega⟩,?_,_,?_,(l,i+1,vs++[toStr (ae (nth l i.toNat) 1)]++ay (aa (ai (ae (nth l i.toNat) 3)))),?_,⟨by simpa[aR] using h1,by simp only;omega,by simp only;omega,?_,?_⟩,rfl,?_⟩,
   fun e1=>⟨_,?_,ai (ae (nth l i.toNat) 3),rfl,⟨rfl,by omega⟩,?_,_,?_,(l,i+1,vs++ay (aa (ai (ae (nth l i.toNat) 3)))),?_,⟨by simpa[aR] using h1,by simp only;omega,by simp only;omega,?_,?_⟩,rfl,?_⟩⟩
  all_goals first
   |omega
   |(simp only[aV];omega)
   |(simp only[show(i+1).toNat=i.toNat+1 by omega,ab9,List.length_cons,List.length_nil];omega)
   |skip
  ·simp only[G2,ie,aV,ab9,List.length_cons,List.length_nil]
   rw[List.take_of_length_le (by simp[aV])]
   rfl
  ·simp only[wc,Out.run,show(i+1).toNat=i.toNat+1 by omega] at ho⊢
   rw[hv,aa7 e1] at ho
   simpa[List.append_assoc] using ho
  ·simp only[G2,ie,aV,ab9]
  ·simp only[wc,Out.run,show(i+1).toNat=i.toNat+1 by omega] at ho⊢
   rw[hv,aa5 e1] at ho
   simpa[List.append_assoc] using ho
 ·simp only[wc,Out.run] at ho
  rw[aa9 (by omega)] at ho
  simpa[aa,ay] using ho
noncomputable def IA(κ:Kp)(r:Nat):Env:=(yZ κ r).ak 182 3 (aO 0 G2 (GF r) wc)
theorem y31(κ:Kp)(r:Nat)(l:List AV)(K:AV->List Dn.Obj->Prop):(a8 (IA κ r) 12 182 [.ad 56 l] [] K)=(
 af (Pg.toProgram (Env.P (yZ κ r))) 182 3=af (Pg.toProgram (Env.P (yZ κ r))) 182 3/\∃(a:List AV×Int×List ByteArray),sp 27 [(3,AV.an 0
 0 0),(6,AV.ad 56 l),(7,AV.int (↑(l.length):Int)),(8,AV.int 0)] [Obj.row 9 []]=sp 27 [(3,AV.an 0 0 (List.length a.2.2)),(6,AV.ad 56 a.1),(7,
 AV.int (↑(a.1.length):Int)),(8,AV.int a.2.1)] [Obj.row 9 (strs a.2.2)]/\(a.1.length<=9223372036854775807/\(0:Int)<=a.2.1/\a.2.1<=(↑(a.1.length):
 Int)/\a6 (aa (List.drop a.2.1.toNat a.1))<=r/\List.length a.2.2+a6 (aa (List.drop a.2.1.toNat a.1))<=100000)/\K (AV.an 0 0 (List.length
 (a.2.2++ay (aa (List.drop a.2.1.toNat a.1))))) [Obj.row 9 (strs (a.2.2++ay (aa (List.drop a.2.1.toNat a.1))))]):=by kernel_rfl
theorem Io(n:Nat):(Mg n).ji:=aJ
theorem WS(κ:Kp)(r:Nat)(hp: ∀args st K,(∃m,m<r/\Mg m args st K)->cM (Pr κ) 182 args st K):aB (IA κ r)/\aj (IA κ r)/\(IA κ r).P=Pr κ:=
 have h:aB (yZ κ r):=(Zp κ).gZ hp
 have hm:aj (yZ κ r):=(YF κ).ax (fun _ _ _ _ hK ⟨m,h1,h2⟩=>⟨m,h1,Io m _ _ _ _ hK h2⟩)
 ⟨h.ak hm (l31 κ r),hm.ak aG,rfl⟩
theorem c31(κ:Kp)(r:Nat):bt (IA κ r) 12 182 (Mg r):=by
 refine aZ ?_
 rintro l K ⟨h1,h2⟩ ho
 refine Eq.mpr (y31 κ r l K) ?_
 have:=fA (aa l)
 rw[eP] at this
 refine⟨rfl,(l,0,[]),rfl,⟨by simp only;omega,by simp only;omega,by simp only;omega,?_,?_⟩,?_⟩
 ·simp only[ab8,ab1];omega
 ·simp only[ab8,ab1,List.length_nil];omega
 ·simp only[ab8,ab1,List.nil_append]
  exact ho
def bF(l:List AV):Prop:=a6 (aa l)<=100000
theorem q31(κ:Kp): ∀args st K,aL Rv bF Jq args st K->cM (Pr κ) 182 args st K:=by
 rintro args st K ⟨l,h1,h2,h3⟩
 exact aB.tX Mg (IA κ) (WS κ) (c31 κ) (a6 (aa l)) args st K ⟨l,h1,⟨rfl,h2⟩,h3⟩
noncomputable def NL(κ:Kp):Env:=(VR κ).ax 182 (aL Rv bF Jq)
theorem e31(κ:Kp):aB (NL κ):=(Zp κ).gZ (q31 κ)
theorem m31(κ:Kp):aj (NL κ):=(YF κ).ax aJ
theorem x23(κ:Kp)(l:List AV)(i:Int)(es:List (Value×AV))(I:Nat->S->Prop)(n:Nat)(K:Exit->S->Prop):(vc (NL κ) 12 121 none 1 (af (Pr κ).toProgram 121 1) (sp 15 [(0, .mp 0),(6, .ad 9 l),(7, .int l.length),(8, .int i)] [.map 9 4 es]) (bK (NL κ) 121 1 1 I n K))=(
 letI z1:=i<(↑(l.length):Int)
 aD (decide z1) (aX (decide ((0:Int)<=i)&&decide z1) (∃(e0:Nat),e0<n/\I e0 (sp 15 [(0,AV.mp 0),(6,AV.ad 9 l),(7,AV.int (↑(l.length):Int)),(8,
 AV.int (IntKind.wrap IntKind.i64 (i+(1:Int))))] [Dn.Obj.map 9 4 (eX es (Value.string (toStr (nth l i.toNat))) (AV.bool true))]))) (K (Exit.exit 0) (sp 15 []
 [Dn.Obj.map 9 4 es]))):=by kernel_rfl
abbrev Qe(a:List AV×Int×List (Value×AV)):S:=sp 15 [(0, .mp 0),(6, .ad 9 a.1),(7, .int a.1.length),(8, .int a.2.1)] [.map 9 4 a.2.2]
def uh(a:List AV×Int×List (Value×AV)):Prop:=a.1.length<=aR/\0<=a.2.1/\a.2.1<=a.1.length
def Ax(a:List AV×Int×List (Value×AV)):Out (Exit×S):= .one (.exit 0,sp 15 [] [.map 9 4 (fF a.2.2 (a.1.drop a.2.1.toNat))])
theorem l23(κ:Kp):bj (NL κ) 12 121 1 (aO 1 Qe uh Ax):=by
 refine aK (fun a=>a.1.length - a.2.1.toNat) ?_
 rintro⟨l,i,es⟩ K ⟨h1,h2,h3⟩ ho
 simp only at h1 h2 h3
 rw[show(NL κ).P=Pr κ from rfl]
 refine Eq.mpr (x23 κ l i es _ _ K) ?_
 simp only[aR] at h1
 simp only[ah,aq,aa1,aa3,aa2]
 refine⟨fun hi=>⟨⟨h2,hi⟩,?_⟩,fun hi=>?_⟩
 ·rw[aW (n:=i+1) (by omega) (by omega)]
  refine⟨_,?_,(l,i+1,eX es (.string (toStr (nth l i.toNat))) (.lit (.bool true))),rfl,⟨by simpa[aR] using h1,by simp only;omega,by simp only;omega⟩,rfl,?_⟩
  ·simp only;omega
  ·simp only[Ax,Out.run] at ho⊢
   rw[ab2 (show i.toNat<l.length by omega),fF,←bf l i.toNat (by omega)] at ho
   rw[show(i+1).toNat=i.toNat+1 by omega]
   exact ho
 ·simp only[Ax,Out.run] at ho
  rw[aa9 (by omega)] at ho
  exact ho
noncomputable def J6(κ:Kp):Env:=(NL κ).ak 121 1 (aO 1 Qe uh Ax)
theorem Yd(κ:Kp):aB (J6 κ):=(e31 κ).ak (m31 κ) (l23 κ)
theorem UK(κ:Kp):aj (J6 κ):=(m31 κ).ak aG
theorem y23(κ:Kp)(l:List AV)(es:List (Value×AV))(K:AV->List Dn.Obj->Prop):(a8 (J6 κ) 12 121 [.mp 0, .ad 9 l] [.map 9 4 es] K)=(
 letI z1:=Pg.toProgram (Env.P (NL κ))
 af z1 121 1=af z1 121 1/\∃(e0:List AV×Int×List (Value×AV)),sp 15 [(0,AV.mp 0),(6,AV.ad 9 l),(7,AV.int (↑(l.length):Int)),(8,AV.int 0)]
 [Dn.Obj.map 9 4 es]=sp 15 [(0,AV.mp 0),(6,AV.ad 9 e0.1),(7,AV.int (↑(e0.1.length):Int)),(8,AV.int e0.2.1)] [Dn.Obj.map 9 4 e0.2.2]/\(e0.1.length<=
 9223372036854775807/\(0:Int)<=e0.2.1/\e0.2.1<=(↑(e0.1.length):Int))/\K (AV.bh []) [Dn.Obj.map 9 4 (fF e0.2.2 (List.drop e0.2.1.toNat e0.1))]):=by kernel_rfl
def Nq(a:List AV×List (Value×AV)):List AV×List Dn.Obj:=([.mp 0, .ad 9 a.1],[.map 9 4 a.2])
def bq(a:List AV×List (Value×AV)):Prop:=a.1.length<=aR
def Qj(a:List AV×List (Value×AV)):Out (AV×List Dn.Obj):= .one (.bh [],[.map 9 4 (fF a.2 a.1)])
theorem c23(κ:Kp):bt (J6 κ) 12 121 (aL Nq bq Qj):=by
 refine aZ ?_
 rintro⟨l,es⟩ K h1 ho
 refine Eq.mpr (y23 κ l es K) ?_
 exact⟨rfl,(l,0,es),rfl,⟨h1,by simp only;omega,by simp only;omega⟩,ho⟩
noncomputable def Oo(κ:Kp):Env:=(J6 κ).ax 121 (aL Nq bq Qj)
theorem e23(κ:Kp):aB (Oo κ):=(Yd κ).ax (UK κ) (c23 κ)
theorem m23(κ:Kp):aj (Oo κ):=(UK κ).ax aJ
theorem x41(κ:Kp)(l:List AV)(i:Int)(es:List (Value×AV))(I:Nat->S->Prop)(n:Nat)(K:Exit->S->Prop):(vc (Oo κ) 12 190 none 2 (af (Pr κ).toProgram 190 2) (sp 19 [(0, .ad 9 l),(1, .bL 235 [.ptr 1 0 [] 0]),(7, .int l.length),(8, .int i)] [.map 9 4 es, .box 178 (.mp 0)]) (bK (Oo κ) 190 2 2 I n K))=(
 letI z1:=i<(↑(l.length):Int)
 aD (decide z1) (aX (decide ((0:Int)<=i)&&decide z1) (aD (!Dn.toBool (dp es (Value.string (toStr (nth l i.toNat))) (AV.bool false))) (K Exit.ret (sp 19 [(4,
 AV.int i)] [Dn.Obj.map 9 4 es,Obj.box 178 (AV.mp 0)])) (∃(e0:Nat),e0<n/\I e0 (sp 19 [(0,AV.ad 9 l),(1,AV.bL 235 [AV.ptr 1 0 [] 0]),(7,AV.int
 (↑(l.length):Int)),(8,AV.int (IntKind.wrap IntKind.i64 (i+(1:Int))))] [Dn.Obj.map 9 4 es,Obj.box 178 (AV.mp 0)])))) (K (Exit.exit 0) (sp 19 []
 [Dn.Obj.map 9 4 es,Obj.box 178 (AV.mp 0)]))):=by kernel_rfl
abbrev Ke(es:List (Value×AV)):List Dn.Obj:=[.map 9 4 es, .box 178 (.mp 0)]
abbrev PX(a:List AV×Int×List (Value×AV)):S:=sp 19 [(0, .ad 9 a.1),(1, .bL 235 [.ptr 1 0 [] 0]),(7, .int a.1.length),(8, .int a.2.1)] (Ke a.2.2)
def zg(a:List AV×Int×List (Value×AV)):Out (Exit×S):=
 .aD (gD a.2.2 (a.1.drop a.2.1.toNat)) (.one (.exit 0,sp 19 [] (Ke a.2.2))) (.all (fun j:Int=>0<=j) fun j=> .one (.ret,sp 19 [(4, .int j)] (Ke a.2.2)))
theorem l41(κ:Kp):bj (Oo κ) 12 190 2 (aO 2 PX uh zg):=by
 refine aK (fun a=>a.1.length - a.2.1.toNat) ?_
 rintro⟨l,i,es⟩ K ⟨h1,h2,h3⟩ ho
 simp only at h1 h2 h3
 rw[show(Oo κ).P=Pr κ from rfl]
 refine Eq.mpr (x41 κ l i es _ _ K) ?_
 simp only[aR] at h1
 simp only[zg,Out.run,ah] at ho
 simp only[ah,aq,aa1,aa3,aa2,Bool.not_eq_true',ab3]
 refine⟨fun hi=>⟨⟨h2,hi⟩,?_⟩,fun hi=>?_⟩
 ·rw[ab2 (show i.toNat<l.length by omega),←bf l i.toNat (by omega)] at ho
  simp only[gD,List.all_cons] at ho
  refine⟨fun e=>?_,fun e=>?_⟩
  ·have e':lO es (toStr (nth l i.toNat))=false:=e
   exact ho.2 (by rw[e'];rfl) i h2
  ·have e':lO es (toStr (nth l i.toNat))=true:=e
   rw[e',ac0] at ho
   rw[aW (n:=i+1) (by omega) (by omega)]
   refine⟨_,?_,(l,i+1,es),rfl,⟨by simpa[aR] using h1,by simp only;omega,by simp only;omega⟩,rfl,?_⟩
   ·simp only;omega
   ·simp only[zg,Out.run,ah,show(i+1).toNat=i.toNat+1 by omega]
    exact ho
 ·rw[aa9 (by omega)] at ho
  exact ho.1 rfl
noncomputable def Kw(κ:Kp):Env:=(Oo κ).ak 190 2 (aO 2 PX uh zg)
theorem XB(κ:Kp):aB (Kw κ):=(e23 κ).ak (m23 κ) (l41 κ)
theorem Vj(κ:Kp):aj (Kw κ):=(m23 κ).ak aG
theorem y30(κ:Kp)(l:List AV)(es:List (Value×AV))(K:AV->List Dn.Obj->Prop):(a8 (Kw κ) 12 181 [.mp 0, .ad 9 l] [.map 9 4 es] K)=(
 af (Pg.toProgram (Env.P (Oo κ))) 190 2=af (Pg.toProgram (Env.P (Oo κ))) 190 2/\∃(a:List AV×Int×List (Value×AV)),sp 19 [(0,AV.ad 9
 l),(1,AV.bL 235 [AV.ptr 1 0 [] 0]),(7,AV.int (↑(l.length):Int)),(8,AV.int 0)] [Dn.Obj.map 9 4 es,Obj.box 178 (AV.mp 0)]=sp 19 [(0,AV.ad 9 a.1),
 (1,AV.bL 235 [AV.ptr 1 0 [] 0]),(7,AV.int (↑(a.1.length):Int)),(8,AV.int a.2.1)] [Dn.Obj.map 9 4 a.2.2,Obj.box 178 (AV.mp 0)]/\(a.1.length<=
 9223372036854775807/\(0:Int)<=a.2.1/\a.2.1<=(↑(a.1.length):Int))/\aD (gD a.2.2 (List.drop a.2.1.toNat a.1)) (K (AV.bool true) [Dn.Obj.map 9 4
 a.2.2]) (∀(y:Int),(0:Int)<=y->K (AV.lit (Value.bool !decide (y>=(0:Int)))) [Dn.Obj.map 9 4 a.2.2])):=by kernel_rfl
def Li(a:List AV×List (Value×AV)):Out (AV×List Dn.Obj):= .one (.bool (gD a.2 a.1),[.map 9 4 a.2])
theorem c30(κ:Kp):bt (Kw κ) 12 181 (aL Nq bq Li):=by
 refine aZ ?_
 rintro⟨l,es⟩ K h1 ho
 refine Eq.mpr (y30 κ l es K) ?_
 refine⟨rfl,(l,0,es),rfl,⟨h1,by simp only;omega,by simp only;omega⟩,?_⟩
 simp only[Li,Out.run] at ho
 simp only[ab8,ab1]
 rw[ah]
 refine⟨fun e=>by rw[e] at ho;exact ho,fun e j hj=>?_⟩
 rw[e] at ho
 rw[aa7 (show j>=0 from hj)]
 exact ho
noncomputable def M3(κ:Kp):Env:=(Kw κ).ax 181 (aL Nq bq Li)
theorem e30(κ:Kp):aB (M3 κ):=(XB κ).ax (Vj κ) (c30 κ)
theorem Z6(κ:Kp):aj (M3 κ):=(Vj κ).ax aJ
theorem x62(κ:Kp)(l:List AV)(i:Int)(vs:List ByteArray)(I:Nat->S->Prop)(n:Nat)(K:Exit->S->Prop):(vc (M3 κ) 12 264 none 0 (af (Pr κ).toProgram 264 3) (sp 23 [(3, .an 0 0 vs.length),(7, .ad 56 l),(8, .int l.length),(9, .int i)] [.row 9 (strs vs)]) (bK (M3 κ) 264 3 0 I n K))=(
 letI z1:=nth l i.toNat
 letI z2:=IntKind.wrap IntKind.i64 (i+(1:Int))
 letI z3:=i<(↑(l.length):Int)
 aD (decide z3) (aX (decide ((0:Int)<=i)&&decide z3) (aD (decide (toInt (ae z1 0)>=(5:Int))) (∃(e1:List AV),([AV.ad 56 [AV.agg [AV.int (toInt (ae z1
 0)),AV.str (toStr (ae z1 1)),AV.int (toInt (ae z1 2)),AV.ad 56 (ai (ae z1 3))]]],aI)=([AV.ad 56 e1],aI)/\bF e1/\aX (decide ((vs.length+List.length
 (List.take (List.length (ay (aa e1))) (List.drop 0 (strs (ay (aa e1)))))+1)*17<=70368744177664)) (∃(e0:Nat),e0<n/\I e0 (sp 23 [(3,AV.an 0 0
 (vs.length+List.length (List.take (List.length (ay (aa e1))) (List.drop 0 (strs (ay (aa e1))))))),(7,AV.ad 56 l),(8,AV.int (↑(l.length):Int)),(9,
 AV.int z2)] [Obj.row 9 (List.take vs.length (strs vs)++List.take (List.length (ay (aa e1))) (List.drop 0 (strs (ay (aa e1)))))]))) (∃(e0:Nat),e0<n/\I
 e0 (sp 23 [(3,AV.an 0 0 vs.length),(7,AV.ad 56 l),(8,AV.int (↑(l.length):Int)),(9,AV.int z2)] [Obj.row 9 (strs vs)])))) (K (Exit.exit 0) (sp 23 [(3,
 AV.an 0 0 vs.length)] [Obj.row 9 (strs vs)]))):=by kernel_rfl
abbrev JP(a:List AV×Int×List ByteArray):S:=sp 23 [(3, .an 0 0 a.2.2.length),(7, .ad 56 a.1),(8, .int a.1.length),(9, .int a.2.1)] [.row 9 (strs a.2.2)]
def FZ(a:List AV×Int×List ByteArray):Prop:=a.1.length<=aR/\0<=a.2.1/\a.2.1<=a.1.length/\a.2.2.length+a6 (aa (a.1.drop a.2.1.toNat))<=100000
def wj(a:List AV×Int×List ByteArray):Out (Exit×S):= .one (.exit 0,sp 23 [(3, .an 0 0 (a.2.2++dM (aa (a.1.drop a.2.1.toNat))).length)] [.row 9 (strs (a.2.2++dM (aa (a.1.drop a.2.1.toNat))))])
theorem l62(κ:Kp):bj (M3 κ) 12 264 3 (aO 0 JP FZ wj):=by
 refine aK (fun a=>a.1.length - a.2.1.toNat) ?_
 rintro⟨l,i,vs⟩ K ⟨h1,h2,h3,h5⟩ ho
 simp only at h1 h2 h3 h5
 rw[show(M3 κ).P=Pr κ from rfl]
 refine Eq.mpr (x62 κ l i vs _ _ K) ?_
 simp only[ab1,cX]
 simp only[aR] at h1
 simp only[ah,aq,aa1,aa3,aa2]
 refine⟨fun hi=>⟨⟨h2,hi⟩,?_⟩,fun hi=>?_⟩
 ·have hv:=L9 l i.toNat (by omega)
  have hc:a6 (aa (l.drop i.toNat))=a6 [cR (nth l i.toNat)]+a6 (aa (l.drop (i.toNat+1))):=by
   rw[eI l i.toNat (by omega)];simp only[a6,Nat.add_zero]
  have hle:=cx [cR (nth l i.toNat)]
  have ht:aa [.agg [.int (toInt (ae (nth l i.toNat) 0)), .lit (.string (toStr (ae (nth l i.toNat) 1))), .int (toInt (ae (nth l i.toNat) 2)), .ad 56 (ai (ae (nth l i.toNat) 3))]]=[cR (nth l i.toNat)]:=by
   simp only[aa,ac1,ac2]
   rw[oH,←dh]
  rw[aW (n:=i+1) (by omega) (by omega)]
  refine⟨fun e1=>⟨_,rfl,?_,?_,_,?_,(l,i+1,vs++ay [cR (nth l i.toNat)]),?_,⟨by simpa[aR] using h1,by simp only;omega,by simp only;omega,?_⟩,rfl,?_⟩,fun e1=>⟨_,?_,(l,i+1,vs),rfl,⟨by simpa[aR] using h1,by simp only;omega,by simp only;omega,?_⟩,rfl,?_⟩⟩
  ·simp only[bF,ht];omega
  ·rw[ht,aV];omega
  ·simp only;omega
  ·rw[ht];simp only[JP,ie,aV,ab9]
  ·simp only[show(i+1).toNat=i.toNat+1 by omega,ab9];omega
  ·simp only[wj,Out.run,show(i+1).toNat=i.toNat+1 by omega] at ho⊢
   rw[hv,aa7 (show 5<=toInt (ae (nth l i.toNat) 0) from e1)] at ho
   simpa[List.append_assoc] using ho
  ·simp only;omega
  ·simp only[show(i+1).toNat=i.toNat+1 by omega];omega
  ·simp only[wj,Out.run,show(i+1).toNat=i.toNat+1 by omega] at ho⊢
   rw[hv,aa5 (show ¬ 5<=toInt (ae (nth l i.toNat) 0) from e1)] at ho
   simpa[List.append_assoc] using ho
 ·simp only[wj,Out.run] at ho
  rw[aa9 (by omega)] at ho
  simpa[aa,dM] using ho
noncomputable def Jm(κ:Kp):Env:=(M3 κ).ak 264 3 (aO 0 JP FZ wj)
theorem WR(κ:Kp):aB (Jm κ):=(e30 κ).ak (Z6 κ) (l62 κ)
theorem Vf(κ:Kp):aj (Jm κ):=(Z6 κ).ak aG
theorem y62(κ:Kp)(s:ByteArray)(l:List AV)(K:AV->List Dn.Obj->Prop):(a8 (Jm κ) 12 264 [.agg [.lit (.string s), .ad 56 l]] [] K)=(
 af (Pg.toProgram (Env.P (M3 κ))) 264 3=af (Pg.toProgram (Env.P (M3 κ))) 264 3/\∃(a:List AV×Int×List ByteArray),sp 23 [(3,AV.an 0 0 0),
 (7,AV.ad 56 l),(8,AV.int (↑(l.length):Int)),(9,AV.int 0)] [Obj.row 9 []]=sp 23 [(3,AV.an 0 0 (List.length a.2.2)),(7,AV.ad 56 a.1),(8,AV.int
 (↑(a.1.length):Int)),(9,AV.int a.2.1)] [Obj.row 9 (strs a.2.2)]/\(a.1.length<=9223372036854775807/\(0:Int)<=a.2.1/\a.2.1<=(↑(a.1.length):Int)/\
 List.length a.2.2+a6 (aa (List.drop a.2.1.toNat a.1))<=100000)/\K (AV.an 0 0 (List.length (a.2.2++dM (aa (List.drop a.2.1.toNat a.1)))))
 [Obj.row 9 (strs (a.2.2++dM (aa (List.drop a.2.1.toNat a.1))))]):=by kernel_rfl
def Uh(a:ByteArray×List AV):List AV×List Dn.Obj:=([.agg [.lit (.string a.1), .ad 56 a.2]],[])
def jR(a:ByteArray×List AV):Prop:=a6 (aa a.2)<=100000
def P1(a:ByteArray×List AV):Out (AV×List Dn.Obj):= .one (.an 0 0 (dM (aa a.2)).length,[.row 9 (strs (dM (aa a.2)))])
theorem c62(κ:Kp):bt (Jm κ) 12 264 (aL Uh jR P1):=by
 refine aZ ?_
 rintro⟨s,l⟩ K h1 ho
 simp only[jR] at h1
 refine Eq.mpr (y62 κ s l K) ?_
 have:=fA (aa l)
 rw[eP] at this
 refine⟨rfl,(l,0,[]),rfl,⟨by simp only;omega,by simp only;omega,by simp only;omega,?_⟩,?_⟩
 ·simp only[ab8,ab1,List.length_nil];omega
 ·simp only[ab8,ab1,List.nil_append]
  exact ho
noncomputable def SH(κ:Kp):Env:=(Jm κ).ax 264 (aL Uh jR P1)
theorem e62(κ:Kp):aB (SH κ):=(WR κ).ax (Vf κ) (c62 κ)
theorem YN(κ:Kp):aj (SH κ):=(Vf κ).ax aJ
structure LA where
 op:Int
 s:ByteArray
 l:List AV
 o1:Int
 s1:ByteArray
 n1:Int
 l1:List AV
 o2:Int
 s2:ByteArray
 n2:Int
 l2:List AV
abbrev LA.av(a:LA):AV:= .agg [.int a.op, .agg [.lit (.string a.s), .ad 56 a.l], .agg [.int a.o1, .lit (.string a.s1), .int a.n1, .ad 56 a.l1], .agg [.int a.o2, .lit (.string a.s2), .int a.n2, .ad 56 a.l2]]
theorem y21(κ:Kp)(a:LA)(K:AV->List Dn.Obj->Prop):(a8 (SH κ) 12 119 [a.av] [] K)=(
 K (AV.bool (decide (a.op>=(7:Int)))) []):=by kernel_rfl
def g21:List AV->Option (Bool×AV)
 |[.agg [.lit (.int .i64 op), .agg [.lit (.string _), .ad 56 _], .agg [.lit (.int .i64 _), .lit (.string _), .lit (.int .i64 _), .ad 56 _], .agg [.lit (.int .i64 _), .lit (.string _), .lit (.int .i64 _), .ad 56 _]]]=>some (true, .bool (decide (7<=op)))
 |_=>none
theorem p21(κ:Kp):cU (SH κ) 12 119 g21:=by
 intro args x hh
 unfold g21 at hh
 split at hh
 ·rename_i op s l o1 s1 n1 l1 o2 s2 n2 l2
  simp only[aa4,ab0,true_and] at hh
  subst hh
  exact⟨_,rfl,rfl,Eq.mpr (y21 κ ⟨op,s,l,o1,s1,n1,l1,o2,s2,n2,l2⟩ _) rfl⟩
 ·cases hh
noncomputable def Tn(κ:Kp):Env:=(SH κ).aH 119 g21
theorem e21(κ:Kp):aB (Tn κ):=(e62 κ).aH (YN κ) (p21 κ)
theorem Zo(κ:Kp):aj (Tn κ):=(YN κ).aH
theorem y40(κ:Kp)(a:LA)(K:AV->List Dn.Obj->Prop):(a8 (Tn κ) 12 189 [a.av] [] K)=(
 letI z1:=∃(e1:List AV),([AV.ad 56 [AV.agg [AV.int a.o1,AV.str a.s1,AV.int a.n1,AV.ad 56 a.l1],AV.agg [AV.int a.o2,AV.str a.s2,AV.int a.n2,AV.ad 56
  a.l2]]],aI)=([AV.ad 56 e1],aI)/\bF e1/\∃(e0:List AV),([AV.ad 56 a.l],aI)=([AV.ad 56 e0],aI)/\bF e0/\aX (decide ((List.length (ay (aa e1))+
  List.length (List.take (List.length (ay (aa e0))) (List.drop 0 (strs (ay (aa e0)))))+1)*17<=70368744177664)) (K (AV.an 0 0 (List.length (ay (aa e1))+
  List.length (List.take (List.length (ay (aa e0))) (List.drop 0 (strs (ay (aa e0))))))) [Obj.row 9 (List.take (List.length (ay (aa e1))) (strs (ay (aa e1)))++
  List.take (List.length (ay (aa e0))) (List.drop 0 (strs (ay (aa e0)))))])
 (z1/\z1/\z1/\z1)/\(z1/\z1/\z1)/\(z1/\z1)/\z1):=by kernel_rfl
def LA.lt(a:LA):Lt:=⟨a.op,⟨a.s,aa a.l⟩, .mk a.o1 a.s1 a.n1 (aa a.l1), .mk a.o2 a.s2 a.n2 (aa a.l2)⟩
def Vu(a:LA):List AV×List Dn.Obj:=([a.av],[])
def gm(a:LA):Prop:=iQ a.lt<=100000
def Mm(a:LA):Out (AV×List Dn.Obj):= .one (.an 0 0 (ej a.lt).length,[.row 9 (strs (ej a.lt))])
theorem c40(κ:Kp):bt (Tn κ) 12 189 (aL Vu gm Mm):=by
 refine aZ ?_
 rintro a K h1 ho
 refine Eq.mpr (y40 κ a K) ?_
 simp only[and_self]
 simp only[gm,iQ,LA.lt] at h1
 have ht:aa [.agg [.int a.o1, .lit (.string a.s1), .int a.n1, .ad 56 a.l1], .agg [.int a.o2, .lit (.string a.s2), .int a.n2, .ad 56 a.l2]]=[.mk a.o1 a.s1 a.n1 (aa a.l1), .mk a.o2 a.s2 a.n2 (aa a.l2)]:=by
  simp only[aa,ac1,ac2]
  rw[oH,oH];rfl
 have e1:=cx (aa a.l)
 have e2:=cx [.mk a.o1 a.s1 a.n1 (aa a.l1), .mk a.o2 a.s2 a.n2 (aa a.l2)]
 refine⟨_,rfl,?_,_,rfl,?_,?_⟩
 ·simp only[bF,ht];omega
 ·simp only[bF];omega
 ·simp only[ab1,cX,ht,aV]
  rw[aq,aa1]
  refine⟨by omega,?_⟩
  simp only[Mm,Out.run,ej,LA.lt,ie,ab9] at ho
  exact ho
noncomputable def TJ(κ:Kp):Env:=(Tn κ).ax 189 (aL Vu gm Mm)
theorem e40(κ:Kp):aB (TJ κ):=(e21 κ).ax (Zo κ) (c40 κ)
theorem Zh(κ:Kp):aj (TJ κ):=(Zo κ).ax aJ
structure TA where
 o1:Int
 s1:ByteArray
 n1:Int
 l1:List AV
 o2:Int
 s2:ByteArray
 n2:Int
 l2:List AV
 es:List (Value×AV)
theorem y20(κ:Kp)(a:TA)(K:AV->List Dn.Obj->Prop):(a8 (TJ κ) 12 118 [.mp 0, .agg [.int a.o1, .lit (.string a.s1), .int a.n1, .ad 56 a.l1], .agg [.int a.o2, .lit (.string a.s2), .int a.n2, .ad 56 a.l2]] [.map 9 4 a.es] K)=(
 letI z1:=K (AV.bool false) [Dn.Obj.map 9 4 a.es]
 aD (a.o1==(1:Int)) (aD (!Dn.toBool (dp a.es (Value.string a.s1) (AV.bool false))) (∃(e1:List AV),([AV.ad 56 [AV.agg [AV.int a.o2,AV.str a.s2,AV.int
 a.n2,AV.ad 56 a.l2]]],aI)=([AV.ad 56 e1],aI)/\bF e1/\∃(e0:List AV×List (Value×AV)),([AV.mp 0,AV.ad 9 (List.take (List.length (ay (aa e1)))
 (List.drop 0 (strs (ay (aa e1)))))],[Dn.Obj.map 9 4 a.es])=([AV.mp 0,AV.ad 9 e0.1],[Dn.Obj.map 9 4 e0.2])/\bq e0/\K (AV.bool (gD e0.2 e0.1)) [Dn.Obj.map
 9 4 e0.2]) z1) z1):=by kernel_rfl
def TA.x(a:TA):Tm:= .mk a.o1 a.s1 a.n1 (aa a.l1)
def TA.y(a:TA):Tm:= .mk a.o2 a.s2 a.n2 (aa a.l2)
def Tx(a:TA):List AV×List Dn.Obj:=([.mp 0, .agg [.int a.o1, .lit (.string a.s1), .int a.n1, .ad 56 a.l1], .agg [.int a.o2, .lit (.string a.s2), .int a.n2, .ad 56 a.l2]],[.map 9 4 a.es])
def iT(a:TA):Prop:=a6 [a.y]<=100000
def PN(a:TA):Out (AV×List Dn.Obj):= .one (.bool (lL a.es a.x a.y),[.map 9 4 a.es])
theorem c20(κ:Kp):bt (TJ κ) 12 118 (aL Tx iT PN):=by
 refine aZ ?_
 rintro a K h1 ho
 refine Eq.mpr (y20 κ a K) ?_
 have ht:aa [.agg [.int a.o2, .lit (.string a.s2), .int a.n2, .ad 56 a.l2]]=[a.y]:=by
  simp only[aa,ac1,ac2]
  rw[oH];rfl
 have hle:=cx [a.y]
 have ho':K (.bool (decide (a.o1=1)&&(!lO a.es a.s1&&gD a.es (strs (ay [a.y]))))) [.map 9 4 a.es]:=ho
 simp only[iT] at h1
 simp only[ah,beq_iff_eq,beq_eq_false_iff_ne,Bool.not_eq_true',ab3]
 refine⟨fun e1=>⟨fun e2=>?_,fun e2=>?_⟩,fun e1=>?_⟩
 ·have e2':lO a.es a.s1=false:=e2
  rw[aa7 e1,e2'] at ho'
  refine⟨_,rfl,by simp only[bF,ht];exact h1,(strs (ay [a.y]),a.es),?_,?_,ho'⟩
  ·simp only[ab1,cX,ht]
  ·simp only[bq,aV,aR];omega
 ·have e2':lO a.es a.s1=true:=e2
  rw[aa7 e1,e2'] at ho'
  exact ho'
 ·rw[aa5 e1] at ho'
  exact ho'
noncomputable def Wa(κ:Kp):Env:=(TJ κ).ax 118 (aL Tx iT PN)
theorem V5(κ:Kp):aB (Wa κ):=(e40 κ).ax (Zh κ) (c20 κ)
theorem ZZ(κ:Kp):aj (Wa κ):=(Zh κ).ax aJ
end Go.Proofs.YthaiinlfnommnaaGreatDoor
